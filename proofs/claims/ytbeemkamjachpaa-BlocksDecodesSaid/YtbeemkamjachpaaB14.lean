/- Load, by a contract. -/
import Derived.Test.YtbeemkamjachpaaB13
namespace Go.Proofs.Ytbeemkamjachpaa
open Go.RowKit
set_option maxRecDepth 100000
/-- What Load does to the states with a list of blocks: the error and the states. -/
def ldL (f : Nat) : List UInt8 → List Int → Nat × List UInt8
  | l, [] => (0, l)
  | l, x :: r => if inR f l.length x = false then (2, l) else if l.getD (x - (f : Int)).toNat 0 ≠ 0 then (7, l) else ldL f (l.set (x - (f : Int)).toNat 1) r
def rangeOk (f n : Int) : Prop := 0 ≤ f ∧ f ≤ 1073741824 ∧ 1 ≤ n ∧ n ≤ 65536
theorem load_range (f n : Int) (v : Value) (W : World) (h : f < 0 ∨ 1073741824 < f ∨ n < 1 ∨ 65536 < n) : Calls Try.prog 23 #[.int .i64 f, .int .i64 n, v] W fun e w' =>
    e = .returned (.tuple #[.pointer none, .int .i64 2]) ∧ W = w' := by
  have H := Lib.hid (new_bad f n W h)
  clear h
  go_enter Try.func23, Try.ntmps23
  go_wp2_with fail
  refine H.out.mono ?_
  rintro e w' ⟨rfl, rfl⟩
  clear H
  go_wp2
  go_returns
  exact ⟨rfl, rfl⟩
theorem inR_true {f n : Nat} {x : Int} (h : inR f n x = true) : ∃ k, k < n ∧ x = (f : Int) + (k : Nat) := by
  have := of_decide_eq_true h
  exact ⟨(x - f).toNat, by omega, by omega⟩
set_option maxHeartbeats 2000000 in
theorem load_any (f n : Nat) (A : Option Addr) (m c : Nat) (used : List Int) (W : World) (hf : f ≤ 1073741824) (h1 : 1 ≤ n) (hn : n ≤ 65536) (hr : Rd W W.heap.size LI A m used) (hm : m ≤ 9223372036854775806) (hu : ∀ x ∈ used, x ≤ 9223372036854775807) :
    Calls Try.prog 23 #[.int .i64 (f : Nat), .int .i64 (n : Nat), .slice A m c] W fun e w' =>
    ((ldL f (List.replicate n 0) used).1 = 0 ∧ (∃ b s, b < w'.heap.size ∧ W.heap.size ≤ s ∧ W.heap.size ≤ b ∧ e = .returned (.tuple #[.pointer (some ⟨b, 0, none⟩), .int .i64 0]) ∧ MpAt w' b s f (ldL f (List.replicate n 0) used).2) ∨
     (ldL f (List.replicate n 0) used).1 ≠ 0 ∧ e = .returned (.tuple #[.pointer none, .int .i64 ((ldL f (List.replicate n 0) used).1 : Nat)])) ∧ Below W.heap.size W w' := by
  have HR := Lib.hid hr; have HU := Lib.hid hu
  have hl := hr.len
  have HL := Lib.hid hl
  have HN := Lib.hid (new_ok f n W hf h1 hn)
  have hld : ldL f (List.replicate n 0) used = ldL f (List.replicate n 0) (used.drop 0) := by rw [List.drop_zero]
  generalize hl0 : List.replicate n (0 : UInt8) = l0 at hld HN
  have hlen0 : l0.length = n := by rw [← hl0, List.length_replicate]
  generalize hres : ldL f l0 used = res at hld
  have HD := Lib.hid hld; have HN0 := Lib.hid hlen0
  clear hr hu hl hld hl0 hlen0 hres h1
  go_enter Try.func23, Try.ntmps23
  go_wp2_with fail
  refine HN.out.mono ?_
  rintro e w1 ⟨rfl, hm1, hb1⟩
  have M1 := Lib.hid hm1; have B1 := Lib.hid hb1
  clear hm1 hb1 HN
  go_wp2
  generalize hN : W.heap.size = N at M1 B1 HR ⊢
  go_loopw [23] (fun v wr => ∃ (k : Nat) (l : List UInt8), k ≤ m ∧ v = .int .i64 (k : Nat) ∧ l.length = n ∧ MpAt wr (N + 1) N f l ∧ Below N W wr ∧ res = ldL f l (used.drop k)) (fun v _ => m - (intOf v).toNat)
  case atStart => exact ⟨0, l0, by omega, rfl, HN0.out, M1.out, B1.out, HD.out⟩
  case round =>
    obtain ⟨k, l, hk, rfl, hln, hmp, hb, hd⟩ := hrel
    clear M1 B1 HD
    have HM := Lib.hid hmp; have HB := Lib.hid hb; have HLn := Lib.hid hln
    by_cases hlt : k < m
    · have k1 : k < used.length := by have := HL.out; omega
      obtain ⟨b1, o1, x, rfl, hb1, hx, hc1⟩ := (HR.out.below hb).nth hlt
      have d1 : wr.cell? ⟨b1, o1 + k, none⟩ = some (.int .i64 x) := by
        have := hc1 0 _ rfl
        simpa [LI] using this
      have hx' : used[k] = x := by rw [List.getElem?_eq_getElem k1] at hx; injection hx
      have hxm : x ≤ 9223372036854775807 := HU.out x (by rw [← hx']; exact List.getElem_mem _)
      rw [List.drop_eq_getElem_cons k1, hx'] at hd
      have hdd := hd
      unfold ldL at hd
      rw [hln] at hd
      have HH := Lib.hid (has_any (N + 1) N f l x wr hmp hxm)
      rw [hln] at HH
      clear hx hc1 hx' hb1 k1 hmp hb hdd
      by_cases hin : inR f n x = true
      · rw [if_neg (by rw [hin]; decide)] at hd
        rw [hin] at HH
        obtain ⟨j, hj, rfl⟩ := inR_true hin
        have ej : (f : Int) + (j : Nat) - (f : Nat) = (j : Nat) := by omega
        rw [ej, Int.toNat_natCast] at hd
        clear hin
        by_cases hz : l.getD j 0 = 0
        · rw [if_neg (by rw [hz]; decide)] at hd
          have HDn := Lib.hid hd
          clear hd
          go_wp2_with fail
          refine HH.out.mono ?_
          rintro e w2 ⟨rfl, hb2⟩
          have hm2 := HM.out.after hb2
          have hc0 := hm2.cell (k := j) (by omega)
          rw [hz] at hc0
          obtain ⟨cap, q1, q2, hblk⟩ := hm2.blk
          have f0 : w2.cell? ⟨N + 1, 0, none⟩ = some (.int .i64 (f : Nat)) := hblk.cell 0
          have f1 : w2.cell? ⟨N + 1, 1, none⟩ = some (.slice (some ⟨N, 0, none⟩) n cap) := by have h := hblk.cell 1; rw [hln] at h; exact h
          obtain ⟨ms, hms⟩ := hm2.st
          have hfz := hms.frozen j
          have hset : Hid (MpAt (w2.setCell ⟨N, j, none⟩ (.int .u8 1)) (N + 1) N f (l.set j 1)) := Lib.hid (hm2.set (k := j) (by omega) 1)
          have hbs : Hid (Below N W (w2.setCell ⟨N, j, none⟩ (.int .u8 1))) := Lib.hid ((HB.out.trans (hb2.mono (by have := HM.out.lt; omega))).setCell (p := ⟨N, j, none⟩) (Nat.le_refl _) (b8 1))
          have hcb : w2.cell? ⟨N, j, none⟩ = some (.int .u8 0) := hc0
          clear hb2 hm2 hc0 hblk hms hz HH
          go_wp2
          go_roundw
          case rel => exact ⟨k + 1, l.set j 1, by omega, by go_num, by rw [List.length_set]; exact HLn.out, hset.out, hbs.out, HDn.out⟩
          case measure => simp [intOf]; omega
        · rw [if_pos hz] at hd
          have HDn := Lib.hid hd
          clear hd
          have hz' : (l.getD j 0).toNat ≠ 0 := fun h => hz (UInt8.toNat_inj.1 (by simpa using h))
          go_wp2_with fail
          refine HH.out.mono ?_
          rintro e w2 ⟨rfl, hb2⟩
          have hm2 := HM.out.after hb2
          have hc0 := hm2.cell (k := j) (by omega)
          generalize (l.getD j 0).toNat = q at hc0 hz'
          have e0 : ((q : Int) != 0) = true := by simp; omega
          obtain ⟨cap, q1, q2, hblk⟩ := hm2.blk
          have f0 : w2.cell? ⟨N + 1, 0, none⟩ = some (.int .i64 (f : Nat)) := hblk.cell 0
          have f1 : w2.cell? ⟨N + 1, 1, none⟩ = some (.slice (some ⟨N, 0, none⟩) n cap) := by have h := hblk.cell 1; rw [hln] at h; exact h
          have hbs := Lib.hid (HB.out.trans (hb2.mono (by have := HM.out.lt; omega)))
          clear hb2 hm2 hblk hz hz' HH
          go_wp2
          go_returns
          rw [HDn.out]
          exact ⟨.inr ⟨by simp, rfl⟩, by rw [hN]; exact hbs.out⟩
      · have hin' : inR f n x = false := by simpa using hin
        rw [if_pos hin'] at hd
        rw [hin'] at HH
        have HDn := Lib.hid hd
        clear hd hin hin'
        go_wp2_with fail
        refine HH.out.mono ?_
        rintro e w2 ⟨rfl, hb2⟩
        have hbs := Lib.hid (HB.out.trans (hb2.mono (by have := HM.out.lt; omega)))
        clear hb2 HH
        go_wp2
        go_returns
        rw [HDn.out]
        exact ⟨.inr ⟨by simp, rfl⟩, by rw [hN]; exact hbs.out⟩
    · obtain rfl : k = m := by omega
      rw [List.drop_of_length_le (by rw [HL.out]; exact Nat.le_refl _)] at hd
      have HDn := Lib.hid hd
      clear hd hmp hb
      go_wp2
      go_returns
      rw [HDn.out]
      exact ⟨.inl ⟨rfl, N + 1, N, HM.out.lt.1, by omega, by omega, rfl, HM.out⟩, by rw [hN]; exact HB.out⟩
end Go.Proofs.Ytbeemkamjachpaa
