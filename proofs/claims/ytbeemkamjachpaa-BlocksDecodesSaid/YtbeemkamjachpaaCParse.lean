/- The codec's first functions: Parse, Append, Size, and the reference's Parse and Natural, each by a contract. -/
import Derived.Test.YtbeemkamjachpaaCGroups
import Derived.Test.YtbeemkamjachpaaCNat
namespace Go.Proofs.Ytbeemkamjachpaa
open Go.RowKit
set_option maxRecDepth 100000
theorem grp_lt (l : List UInt8) (m : Nat) : (grp l m).1 < 18446744073709551616 := by
  unfold grp vm; split <;> (try split) <;> (try split) <;> simp <;> omega
theorem vm_small (t : List UInt8) (h : t.length ≤ 9) : vm t < 9223372036854775808 := by
  have h1 := val_lt t
  have h9 : (128 : Nat) ^ t.length ≤ 128 ^ 9 := Nat.pow_le_pow_right (by decide) h
  have e : (128 : Nat) ^ 9 = 9223372036854775808 := by decide +kernel
  unfold vm; omega
theorem grp_small (l : List UInt8) : (grp l 9).1 < 9223372036854775808 := by
  unfold grp
  split
  · simp
  split
  · simp
  split
  · simp
  · exact vm_small _ (by rw [List.length_take]; omega)
set_option maxHeartbeats 400000 in
theorem parse_any (A : Option Addr) (n c : Nat) (l : List UInt8) (w : World) (hr : Rd w w.heap.size L8 A n l) (hn : n ≤ 9223372036854775807) :
    Calls Try.prog 72 #[.slice A n c] w fun e w' => e = .returned (.tuple #[.int .i64 ((grp l 9).1 : Nat), .int .i64 ((grp l 9).2.1 : Nat), .int .i64 ((grp l 9).2.2 : Nat)]) ∧ w = w' := by
  have h9 : ((grp l 9).1 : Int) < 9223372036854775808 := by have := grp_small l; omega
  generalize hg : grp l 9 = g at h9 ⊢
  have H9 := Lib.hid h9; clear h9
  have Hg := Lib.hid hg; clear hg
  obtain ⟨g1, g2, g3⟩ := g
  go_enter Try.func72, Try.ntmps72
  go_wp2_with fail
  refine (groups_any A n c 9 l w hr hn (by omega)).mono ?_
  rintro e w' ⟨rfl, rfl⟩
  rw [Hg.out]
  have h9 := H9.out
  go_wp2
  go_ret3
  exact ⟨rfl, rfl⟩
end Go.Proofs.Ytbeemkamjachpaa
