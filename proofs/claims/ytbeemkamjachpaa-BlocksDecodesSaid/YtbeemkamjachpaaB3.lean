/- New, become, Commit, Abort, by contracts. -/
import Derived.Test.YtbeemkamjachpaaB2
namespace Go.Proofs.Ytbeemkamjachpaa
open Go.RowKit
set_option maxRecDepth 100000
theorem new_ok (f n : Nat) (W : World) (hf : f ≤ 1073741824) (h1 : 1 ≤ n) (hn : n ≤ 65536) : Calls Try.prog 29 #[.int .i64 (f : Nat), .int .i64 (n : Nat)] W fun e w' =>
    e = .returned (.tuple #[.pointer (some ⟨W.heap.size + 1, 0, none⟩), .int .i64 0]) ∧ MpAt w' (W.heap.size + 1) W.heap.size f (List.replicate n 0) ∧ Below W.heap.size W w' := by
  have hm := make_any W n hn
  have e0 : decide (((f : Nat) : Int) < 0) = false := by simp
  have e1 : decide (1073741824 < ((f : Nat) : Int)) = false := by simp; omega
  have e2 : decide (((n : Nat) : Int) < 1) = false := by simp; omega
  have e3 : decide (65536 < ((n : Nat) : Int)) = false := by simp; omega
  have HM := Lib.hid (MpNew.at_ W f n hf hn)
  have HB := Lib.hid (show Below W.heap.size W (MpNew W f n) from ((Below.refl _ _).alloc (Nat.le_refl _) _).alloc (by simp) _)
  clear hf h1 hn
  go_enter Try.func29, Try.ntmps29
  go_wp2
  go_returns
  exact ⟨by simp, HM.out, HB.out⟩
theorem new_bad (f n : Int) (W : World) (h : f < 0 ∨ 1073741824 < f ∨ n < 1 ∨ 65536 < n) : Calls Try.prog 29 #[.int .i64 f, .int .i64 n] W fun e w' =>
    e = .returned (.tuple #[.pointer none, .int .i64 2]) ∧ W = w' := by
  by_cases h0 : f < 0
  · have e0 : decide (f < 0) = true := by simp [h0]
    clear h h0
    go_enter Try.func29, Try.ntmps29
    go_wp2
    go_returns
    exact ⟨rfl, rfl⟩
  have e0 : decide (f < 0) = false := by simp; omega
  by_cases h1 : 1073741824 < f
  · have e1 : decide (1073741824 < f) = true := by simp [h1]
    clear h h0 h1
    go_enter Try.func29, Try.ntmps29
    go_wp2
    go_returns
    exact ⟨rfl, rfl⟩
  have e1 : decide (1073741824 < f) = false := by simp; omega
  by_cases h2 : n < 1
  · have e2 : decide (n < 1) = true := by simp; omega
    clear h h0 h1 h2
    go_enter Try.func29, Try.ntmps29
    go_wp2
    go_returns
    exact ⟨rfl, rfl⟩
  have e2 : decide (n < 1) = false := by simp; omega
  have e3 : decide (65536 < n) = true := by simp; omega
  clear h h0 h1 h2
  go_enter Try.func29, Try.ntmps29
  go_wp2
  go_returns
  exact ⟨rfl, rfl⟩
end Go.Proofs.Ytbeemkamjachpaa
