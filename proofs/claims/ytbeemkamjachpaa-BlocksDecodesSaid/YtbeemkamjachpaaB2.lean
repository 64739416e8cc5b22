/- State, become, Commit, Abort, New, by contracts. -/
import Derived.Test.YtbeemkamjachpaaB1
namespace Go.Proofs.Ytbeemkamjachpaa
open Go.RowKit
set_option maxRecDepth 100000
theorem state_out (b s f : Nat) (l : List UInt8) (x : Int) (W : World) (h : MpAt W b s f l) (hx : x ≤ 9223372036854775807) (hin : inR f l.length x = false) : Calls Try.prog 24 #[.pointer (some ⟨b, 0, none⟩), .int .i64 x] W fun e w' =>
    e = .returned (.tuple #[.int .i64 0, .int .i64 2]) ∧ Below W.heap.size W w' := by
  have HH := Lib.hid (has_any b s f l x W h hx)
  rw [hin] at HH
  clear h hx hin
  go_enter Try.func24, Try.ntmps24
  go_wp2_with fail
  refine HH.out.mono ?_
  rintro e w1 ⟨rfl, hb1⟩
  have HB := Lib.hid hb1
  clear hb1
  go_wp2
  go_returns
  exact ⟨rfl, HB.out⟩
theorem inR_in {f n k : Nat} (hk : k < n) : inR f n ((f : Int) + (k : Nat)) = true := decide_eq_true ⟨by omega, by omega⟩
theorem state_in (b s f : Nat) (l : List UInt8) (k : Nat) (W : World) (h : MpAt W b s f l) (hk : k < l.length) : Calls Try.prog 24 #[.pointer (some ⟨b, 0, none⟩), .int .i64 ((f : Int) + (k : Nat))] W fun e w' =>
    e = .returned (.tuple #[.int .i64 ((l.getD k 0).toNat : Int), .int .i64 0]) ∧ Below W.heap.size W w' := by
  have hf := h.f1; have hn := h.n1
  have HH := Lib.hid (has_any b s f l ((f : Int) + (k : Nat)) W h (by omega))
  rw [inR_in hk] at HH
  have H := Lib.hid h
  have hb4 : (l.getD k 0).toNat < 256 := (l.getD k 0).toNat_lt
  have hc0 := h.cell hk
  generalize hq : (l.getD k 0).toNat = q at hb4 hc0 ⊢
  have HQ := Lib.hid hc0
  clear h hq hc0
  go_enter Try.func24, Try.ntmps24
  go_wp2_with fail
  refine HH.out.mono ?_
  rintro e w1 ⟨rfl, hb1⟩
  have h1 := H.out.after hb1
  have HB := Lib.hid hb1
  have hc : w1.cell? ⟨s, k, none⟩ = some (.int .u8 (q : Int)) := (hb1.cell (p := ⟨s, k, none⟩) H.out.lt.2).trans HQ.out
  obtain ⟨c, hc1, hc2, hblk⟩ := h1.blk
  have d0 : w1.cell? ⟨b, 0, none⟩ = some (.int .i64 (f : Nat)) := hblk.cell 0
  have d1 : w1.cell? ⟨b, 1, none⟩ = some (.slice (some ⟨s, 0, none⟩) l.length c) := hblk.cell 1
  have ek : (f : Int) + (k : Nat) - (f : Nat) = (k : Nat) := by omega
  clear h1 hb1 hblk
  go_wp2
  go_quiet (fail)
  go_wp2
  go_returns
  exact ⟨rfl, below_drewN HB.out _⟩
def MpNew (W : World) (f n : Nat) : World := (W.alloc (.cells (List.replicate n (b8 0)).toArray 5)).alloc (.cells #[.int .i64 (f : Nat), .slice (some ⟨W.heap.size, 0, none⟩) n n] 80)
theorem made_zero (n : Nat) : madeCells (Value.int .u8 0).cells n = (List.replicate n (b8 0)).toArray := by
  have e : (Value.int .u8 0).cells = #[.int .u8 0] := rfl
  rw [e]
  unfold madeCells
  apply Array.ext
  · simp
  · intro i h1 h2
    simp [b8, Nat.mod_one]
theorem make_any (W : World) (n : Nat) (hn : n ≤ 65536) : (Instr.makeSlice 78 (.int .i64 (n : Nat)) (.int .i64 (n : Nat))).run Try.prog W = .ok (.slice (some ⟨W.heap.size, 0, none⟩) n n) (W.alloc (.cells (List.replicate n (b8 0)).toArray 5)) := by
  obtain ⟨i, hi, hz0, hz1, hz2⟩ := info_parts (show (Try.prog.info? 5).map (fun i => (i.zero, i.size, i.bytes)) = some (some (.int .u8 0), 1, 1) by kernel_rfl)
  have h := run_makeSlice (P := Try.prog) (w := W) 78 5 i (.int .u8 0) Try.underlying78 hi hz0 .i64 .i64 n n (by omega) (by omega) (by rw [hz1]; omega) (by rw [hz2]; omega) (by omega)
  rw [hz1, Int.toNat_natCast, Nat.mul_one, made_zero] at h
  exact h
theorem MpNew.at_ (W : World) (f n : Nat) (hf : f ≤ 1073741824) (hn : n ≤ 65536) : MpAt (MpNew W f n) (W.heap.size + 1) W.heap.size f (List.replicate n 0) := by
  have h2 := Blk.new (W.alloc (.cells (List.replicate n (b8 0)).toArray 5)) 80 #[.int .i64 (f : Nat), .slice (some ⟨W.heap.size, 0, none⟩) n n]
  rw [show (W.alloc (.cells (List.replicate n (b8 0)).toArray 5)).heap.size = W.heap.size + 1 by simp] at h2
  have h1 := (Blk.new W 5 (List.replicate n (b8 0)).toArray).alloc (.cells #[.int .i64 (f : Nat), .slice (some ⟨W.heap.size, 0, none⟩) n n] 80)
  refine ⟨⟨n, by simp, by omega, by rw [List.length_replicate]; exact h2⟩, ⟨[], ?_⟩, hf, by simpa using hn⟩
  rw [List.map_replicate, List.append_nil]
  exact h1
end Go.Proofs.Ytbeemkamjachpaa
