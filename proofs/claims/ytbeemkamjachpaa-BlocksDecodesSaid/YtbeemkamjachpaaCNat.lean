/- The codec's encoding of a natural number, by a contract: for every number below 2^64 it returns a new slice that holds nat n. -/
import Derived.Test.YtbeemkamjachpaaMem
import Derived.Test.YtbeemkamjachpaaCNum
namespace Go.Proofs.Ytbeemkamjachpaa
open Go.RowKit
theorem El8 : Elem Try.prog 78 5 L8.size 1 := Elem.of (z := .int .u8 0) Try.underlying78 (by kernel_rfl) rfl
/-- A group that is not the last. -/
def contB (x : Nat) : UInt8 := UInt8.ofNat (x % 128 + 128)
theorem contB_val (x : Nat) : bits .or .u8 ((x : Int) % 256) 128 = ((contB x).toNat : Int) := by
  have := u8_or_nat (x % 256) 128 (by omega) (by decide)
  rw [or128 _ (by omega), show x % 256 % 128 = x % 128 by omega] at this
  have e : (contB x).toNat = x % 128 + 128 := by unfold contB; rw [UInt8.toNat_ofNat']; omega
  rw [e, show ((x : Int) % 256) = ((x % 256 : Nat) : Int) by omega]; exact this
theorem ofNat_val (x : Nat) (h : x < 256) : ((UInt8.ofNat x).toNat : Int) = x := by simp; omega
set_option maxRecDepth 100000 in
set_option maxHeartbeats 400000 in
theorem natural_any (n : Nat) (hn : n < 18446744073709551616) (w : World) :
    Calls Try.prog 69 #[.int .u64 (n : Nat)] w fun e w' => ∃ A m c, e = .returned (.slice A m c) ∧ Own w' w.heap.size 5 L8 (.slice A m c) (nat n) ∧ Below w.heap.size w w' := by
  have HN := Lib.hid hn; clear hn
  go_enter Try.func69, Try.ntmps69
  go_wp2
  go_loopw [0, 3] (fun u v wr => ∃ (pre : List UInt8) (f x : Nat), pre.length + f = 9 ∧ x < 128 ^ (f + 1) ∧ Hid (pre ++ natF f x = nat n) ∧ u = .int .u64 (x : Nat) ∧ Own wr w.heap.size 5 L8 v pre ∧ Below w.heap.size w wr) (fun u _ _ => (intOf u).toNat)
  case atStart => exact ⟨[], 9, n, rfl, Nat.lt_of_lt_of_le HN.out (by decide), by simp [nat, Hid], rfl, Own.nil_, Below.refl _ _⟩
  case round =>
    obtain ⟨pre, f, x, hf, hx, Hpre, rfl, hown, hb⟩ := hrel
    have hsz := hb.size
    by_cases h128 : 128 ≤ x
    · obtain ⟨f', rfl⟩ : ∃ f', f = f' + 1 := by
        cases f with
        | zero => simp at hx; omega
        | succ f' => exact ⟨f', rfl⟩
      have e0 : pre.length ≤ 9 := by omega
      have HF := Lib.hid hf; have HX := Lib.hid hx
      clear hf hx
      go_wp2_with (at_builtin; refine ap_one _ rfl _ _ El8 rfl w.heap.size _ pre rfl (hown.alloc _) ⟨wr.heap.size, 0, none⟩ 1 (contB x) rfl ?c1 ?c2 ?c3 ?c4 ?_)
      case c1 => exact new_at (by simp [L8, b8, contB_val])
      case c2 => omega
      case c3 => omega
      case c4 => simp; omega
      intro A' c' w' hown' hg _ _ _
      have hb' := (hown.alloc _).belowGrown (hb.alloc hsz _) (by simp; omega) (Nat.le_refl _) hg
      clear hg hown hb
      go_wp2
      go_roundw
      case rel =>
        refine ⟨pre ++ [contB x], f', x / 128, by simp; have := HF.out; omega, ?_, ?_, by go_num, by simpa using hown', hb'⟩
        · have := HX.out; rw [Nat.pow_succ] at this; omega
        · show _ = _
          rw [← Hpre.out, natF_big _ _ h128, List.append_assoc]; rfl
      case measure => simp [intOf]; omega
    · have e0 : pre.length ≤ 9 := by omega
      have hx128 : (x : Int) % 256 = x := by omega
      go_wp2_with (at_builtin; refine ap_one _ rfl _ _ El8 rfl w.heap.size _ pre rfl (hown.alloc _) ⟨wr.heap.size, 0, none⟩ 1 (UInt8.ofNat x) rfl ?c1 ?c2 ?c3 ?c4 ?_)
      case c1 => exact new_at (by simp [L8, b8]; omega)
      case c2 => omega
      case c3 => omega
      case c4 => simp; omega
      intro A' c' w' hown' hg _ _ _
      have hb' := (hown.alloc _).belowGrown (hb.alloc hsz _) (by simp; omega) (Nat.le_refl _) hg
      clear hg hown hb
      have he : pre ++ [UInt8.ofNat x] = nat n := by rw [← Hpre.out, natF_small f x (by omega)]
      rw [he] at hown'
      clear he
      go_wp2
      go_ret
      exact ⟨A', _, c', rfl, hown', hb'⟩
end Go.Proofs.Ytbeemkamjachpaa
