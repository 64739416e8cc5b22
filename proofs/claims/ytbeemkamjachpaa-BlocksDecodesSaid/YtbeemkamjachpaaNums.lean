/- Bits of 64-bit signed words, as the walk spells them, on natural numbers. Nothing of the program itself. -/
import Derived.Test.YtbeemkamjachpaaMem2
namespace Go.Proofs.Ytbeemkamjachpaa
open Go.RowKit
theorem ofInt64 (a : Nat) (ha : a < 18446744073709551616) : (BitVec.ofInt 64 (a : Int)).toNat = a := by
  rw [BitVec.ofInt_natCast, BitVec.toNat_ofNat]; exact Nat.mod_eq_of_lt (by omega)
theorem i64_and_nat (a b : Nat) (ha : a < 9223372036854775808) (hb : b < 9223372036854775808) : bits .and .i64 (a : Int) (b : Int) = ((a &&& b : Nat) : Int) := by
  have hx : a &&& b < 2 ^ 63 := Nat.and_lt_two_pow _ (by omega)
  show IntKind.i64.wrap ((BitVec.ofInt 64 (a : Int) &&& BitVec.ofInt 64 (b : Int)).toNat : Int) = _
  rw [BitVec.toNat_and, ofInt64 a (by omega), ofInt64 b (by omega), IntKind.wrap_i64]
  omega
theorem i64_or_nat (a b : Nat) (ha : a < 9223372036854775808) (hb : b < 9223372036854775808) : bits .or .i64 (a : Int) (b : Int) = ((a ||| b : Nat) : Int) := by
  have hx : a ||| b < 2 ^ 63 := Nat.or_lt_two_pow (by omega) (by omega)
  show IntKind.i64.wrap ((BitVec.ofInt 64 (a : Int) ||| BitVec.ofInt 64 (b : Int)).toNat : Int) = _
  rw [BitVec.toNat_or, ofInt64 a (by omega), ofInt64 b (by omega), IntKind.wrap_i64]
  omega
/-- 'a &^ b' on natural numbers. -/
def andn (a b : Nat) : Nat := a &&& (18446744073709551615 - b)
theorem andn_le (a b : Nat) : andn a b ≤ a := Nat.and_le_left
theorem testBit_andn (a b i : Nat) (ha : a < 18446744073709551616) (hb : b < 18446744073709551616) : (andn a b).testBit i = (a.testBit i && !b.testBit i) := by
  unfold andn
  rw [Nat.testBit_and, show 18446744073709551615 - b = 2 ^ 64 - (b + 1) by omega, Nat.testBit_two_pow_sub_succ (by omega)]
  by_cases h : i < 64
  · simp [h]
  · have : a.testBit i = false := Nat.testBit_lt_two_pow (Nat.lt_of_lt_of_le ha (show 18446744073709551616 ≤ 2 ^ i by have := Nat.pow_le_pow_right (n := 2) (by decide) (show 64 ≤ i by omega); omega))
    simp [this]
theorem i64_andNot_nat (a b : Nat) (ha : a < 9223372036854775808) (hb : b < 9223372036854775808) : bits .andNot .i64 (a : Int) (b : Int) = ((andn a b : Nat) : Int) := by
  have hx := andn_le a b
  show IntKind.i64.wrap ((BitVec.ofInt 64 (a : Int) &&& ~~~BitVec.ofInt 64 (b : Int)).toNat : Int) = _
  rw [BitVec.toNat_and, BitVec.toNat_not, ofInt64 a (by omega), ofInt64 b (by omega), IntKind.wrap_i64]
  have e : a &&& (2 ^ 64 - 1 - b) = andn a b := by unfold andn; rw [show 2 ^ 64 - 1 - b = 18446744073709551615 - b by omega]
  rw [e]
  omega
end Go.Proofs.Ytbeemkamjachpaa
