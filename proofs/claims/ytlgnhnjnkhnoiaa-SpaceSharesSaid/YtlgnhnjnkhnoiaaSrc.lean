/- The source of a law, by a contract. -/
import Derived.Test.YtlgnhnjnkhnoiaaKn
import Derived.BigRegion
namespace Go.Proofs.Ytlgnhnjnkhnoiaa
open Go.RowKit
set_option maxRecDepth 100000
/-- A page of a source. -/
structure FV where
  page : UInt8
  bytes : List UInt8
def LF : Lay FV := { size := 2, enc := fun x => [b8 x.page, .string (str x.bytes)], pos := by decide, len := fun _ => rfl, one := fun a u hu => by simp at hu; rcases hu with rfl | rfl <;> rfl }
def srcStep (m : List (Int × Value)) (x : FV) : List (Int × Value) := iput m ((x.page.toNat : Int) % 64) (.string (str (x.bytes.take 70)))
def srcL (l : List FV) : List (Int × Value) := (l.take 8).foldl srcStep []
theorem cutN (x : List UInt8) (n : Nat) : (str x).extract 0 (min x.length n) = str (x.take n) := by
  rw [str_extract]; congr 1
  rw [Nat.sub_zero, List.drop_zero]
  rcases Nat.le_total x.length n with h | h
  · rw [Nat.min_eq_left h, List.take_of_length_le (Nat.le_refl _), List.take_of_length_le h]
  · rw [Nat.min_eq_right h]
set_option maxHeartbeats 1000000 in
theorem source_any (A : Option Addr) (n c : Nat) (l : List FV) (W : World) (hr : Rd W W.heap.size LF A n l) (hn : n ≤ 9223372036854775807) (hl : ∀ x ∈ l, x.bytes.length ≤ 9223372036854775807) :
    Calls Try.prog 10 #[.slice A n c] W fun e w' => e = .returned (.map (some W.heap.size)) ∧ IM w' W.heap.size (srcL l) ∧ Below W.heap.size W w' := by
  have hmm := @run_makeMap Try.prog
  have HM0 := Lib.hid (IM.new W 0)
  have HB0 := Lib.hid (show Below W.heap.size W (W.alloc (.map #[] 0)) from (Below.refl _ _).alloc (Nat.le_refl _) _)
  have HR := Lib.hid hr
  have HL := Lib.hid hl
  have hlen : l.length = n := hr.len
  have HLen := Lib.hid hlen
  clear hr hlen hl
  go_enter Try.func10, Try.ntmps10
  go_wp2
  generalize W.alloc (.map #[] 0) = W1 at HM0 HB0 ⊢
  go_loopw [4] (fun v wr => ∃ k : Nat, k ≤ n ∧ k ≤ 8 ∧ v = .int .i64 (k : Nat) ∧ IM wr W.heap.size ((l.take k).foldl srcStep []) ∧ Below W.heap.size W wr) (fun v _ => 8 - (intOf v).toNat)
  case atStart => exact ⟨0, by omega, by omega, rfl, HM0.out, HB0.out⟩
  case round =>
    obtain ⟨k, hk, hk8, rfl, hm, hb⟩ := hrel
    have HM := Lib.hid hm; have HB := Lib.hid hb
    clear hm hb
    by_cases hlt : k < n
    · by_cases hlt8 : k < 8
      · obtain ⟨b, o, x, rfl, -, hx, hc⟩ := (HR.out.after HB.out).nth hlt
        have c0 : wr.cell? ⟨b, o + k * 2, none⟩ = some (.int .u8 (x.page.toNat : Int)) := hc 0 _ rfl
        have c1 : wr.cell? ⟨b, o + k * 2 + 1, none⟩ = some (.string (str x.bytes)) := hc 1 _ rfl
        have hxl : x.bytes.length ≤ 9223372036854775807 := HL.out x (List.mem_of_getElem? hx)
        have hstep : (l.take (k + 1)).foldl srcStep [] = srcStep ((l.take k).foldl srcStep []) x := by
          rw [List.take_add_one, List.foldl_append, hx]; rfl
        obtain ⟨W', hp, him, hgr, hsz⟩ := IM.put (W := wr.drew) (show IM wr.drew W.heap.size ((l.take k).foldl srcStep []) from HM.out) Try.underlying25 Try.underlying3 ((x.page.toNat : Int) % 64) (.string (str (x.bytes.take 70)))
        have hb' : Below W.heap.size W W' := HB.out.drew.grown hgr HB.out.size (fun q e => by injection e with e; omega)
        obtain ⟨j, hj⟩ : ∃ j : Nat, j = min x.bytes.length 70 := ⟨_, rfl⟩
        have hcut := cutN x.bytes 70
        rw [← hj] at hcut
        have hmin : min (((str x.bytes).size : Nat) : Int) 70 = (j : Nat) := by rw [str_size]; omega
        have hj2 : j ≤ (str x.bytes).size := by rw [str_size]; omega
        have hsb : (str x.bytes).size ≤ 9223372036854775807 := hxl
        have HSt := Lib.hid hstep; have HI := Lib.hid him; have HB' := Lib.hid hb'
        clear hx hc hxl hstep him hgr hsz hb' hj
        go_wp2
        go_region
        go_wp2
        go_roundw
        case rel => exact ⟨k + 1, by omega, by omega, by go_num, by rw [HSt.out]; exact HI.out, HB'.out⟩
        case measure => simp [intOf]; omega
      · obtain rfl : k = 8 := by omega
        have HF := Lib.hid (show IM wr W.heap.size (srcL l) from HM.out)
        go_wp2
        go_returns
        exact ⟨rfl, HF.out, HB.out⟩
    · obtain rfl : k = n := by omega
      have HF := Lib.hid (show IM wr W.heap.size (srcL l) by
        unfold srcL
        rw [List.take_of_length_le (by have := HLen.out; omega), ← List.take_of_length_le (l := l) (i := k) (by have := HLen.out; omega)]
        exact HM.out)
      go_wp2
      go_returns
      exact ⟨rfl, HF.out, HB.out⟩
end Go.Proofs.Ytlgnhnjnkhnoiaa
