/- The codec's reader of groups, by a contract: for every slice of bytes and at most ten groups it returns grp, and leaves the world as it was. -/
import Derived.Test.YtbeemkamjachpaaMem
import Derived.Test.YtbeemkamjachpaaCNum
namespace Go.Proofs.Ytbeemkamjachpaa
open Go.RowKit
/-- What 'u |= uint64(c&127) << (7 * i)' holds. -/
theorem or_step (l : List UInt8) (k : Nat) (hk : k < l.length) (hk10 : k < 10) (ch : UInt8) (hc : l.getD k 0 = ch) :
    bits .or .u64 (vm (l.take k) : Nat) (IntKind.u64.wrap (IntKind.u64.wrap (bits .and .u8 (ch.toNat : Int) 127) * 2 ^ (7 * k))) = (vm (l.take (k + 1)) : Nat) := by
  have h1 : bits .and .u8 (ch.toNat : Int) 127 = ((ch.toNat % 128 : Nat) : Int) := by
    have := u8_and_nat ch.toNat 127 ch.toNat_lt (by decide)
    rw [nat_mask7] at this; exact this
  have hv : val (l.take k) < 128 ^ k := by have := val_lt (l.take k); rwa [List.length_take, Nat.min_eq_left (by omega)] at this
  have h64 : val (l.take k) < 18446744073709551616 := by
    have h9 : (128 : Nat) ^ k ≤ 128 ^ 9 := Nat.pow_le_pow_right (by decide) (by omega)
    exact Nat.lt_of_lt_of_le hv (Nat.le_trans h9 (by decide))
  have h2 : IntKind.u64.wrap ((ch.toNat % 128 : Nat) : Int) = ((ch.toNat % 128 : Nat) : Int) := by rw [IntKind.wrap_u64]; omega
  have e2 : (2 : Int) ^ (7 * k) = ((128 ^ k : Nat) : Int) := by rw [Int.pow_mul, Int.natCast_pow]; rfl
  have h3 : IntKind.u64.wrap (((ch.toNat % 128 : Nat) : Int) * 2 ^ (7 * k)) = (((ch.toNat % 128) * 128 ^ k % 18446744073709551616 : Nat) : Int) := by
    rw [IntKind.wrap_u64, e2, ← Int.natCast_mul]; rfl
  rw [h1, h2, h3, u64_or_nat _ _ (by unfold vm; omega) (by omega)]
  unfold vm
  rw [Nat.mod_eq_of_lt h64, or_group_mod _ _ _ hv h64, val_take_succ l k hk, hc]
set_option maxRecDepth 100000 in
set_option maxHeartbeats 400000 in
theorem groups_any (A : Option Addr) (n c most : Nat) (l : List UInt8) (w : World) (hr : Rd w w.heap.size L8 A n l) (hn : n ≤ 9223372036854775807) (hm : most ≤ 10) :
    Calls Try.prog 78 #[.slice A n c, .int .i64 (most : Nat)] w fun e w' => e = .returned (.tuple #[.int .u64 ((grp l most).1 : Nat), .int .i64 ((grp l most).2.1 : Nat), .int .i64 ((grp l most).2.2 : Nat)]) ∧ w = w' := by
  have hl := hr.len
  go_enter Try.func78, Try.ntmps78
  go_wp2
  go_loop [7, 12] (fun u i => ∃ k : Nat, k ≤ n ∧ k ≤ most ∧ i = .int .i64 (k : Nat) ∧ u = .int .u64 (vm (l.take k) : Nat) ∧ ∀ j, j < k → 128 ≤ (l.getD j 0).toNat) (fun _ i => n - (intOf i).toNat)
  case atStart => exact ⟨0, by omega, by omega, rfl, by simp [val, vm], by omega⟩
  case round =>
    obtain ⟨k, hk, hkm, rfl, rfl, hall⟩ := hrel
    have Hall := Lib.hid hall; clear hall
    have Hl := Lib.hid hl; clear hl
    by_cases hlt : k < n
    · obtain ⟨ad, rfl, hb, hcell, hkl⟩ := hr.byte hlt
      clear hr
      generalize hc : l.getD k 0 = ch at hcell
      have Hc := Lib.hid hc; clear hc
      by_cases hkm' : k < most
      · have e1 : ((k : Int) == (most : Int)) = false := by simp; omega
        have HR : (ch.toNat < 128 → gE l = k) := fun h => gE_eq l k hkl Hall.out (by rw [Hc.out]; exact h)
        have HR := Lib.hid HR
        have HO := Lib.hid (or_step l k hkl (by omega) ch Hc.out)
        go_wp2
        case roundEnd =>
          go_round
          case rel =>
            have hge : 128 ≤ (ch.toNat : Int) := by assumption
            refine ⟨k + 1, by omega, by omega, by go_num, by rw [HO.out], fun j hj => ?_⟩
            rcases Nat.lt_or_ge j k with h | h
            · exact Hall.out j h
            · obtain rfl : j = k := by omega
              rw [Hc.out]; omega
          case measure => simp [intOf]; omega
        all_goals
          go_ret3
          have hlt128 : (ch.toNat : Int) < 128 := by assumption
          have hg := HR.out (by omega)
          have hc0 := Hc.out
          have hx : (0 < k ∧ l.getD k 0 = 0) ↔ (0 < k ∧ ch.toNat = 0) := by rw [hc0, ← UInt8.toNat_inj]; rfl
          refine ⟨ret3 ?_ ?_ ?_, rfl⟩ <;> simp only [grp, hg, hx] <;> rw [if_neg (by omega), if_neg (by omega)]
        iterate 3 rw [if_pos ⟨by assumption, by assumption⟩]; rfl
        · have hz : ch.toNat = 0 := by assumption
          have ho := HO.out; rw [hz] at ho
          rw [if_neg (by omega)]; exact ho
        iterate 2 rw [if_neg (by omega)]; rfl
        · rw [if_neg (by omega)]; exact HO.out
        iterate 2 rw [if_neg (by omega)]; rfl
      · obtain rfl : k = most := by omega
        have hg := gE_ge l k (by have := Hl.out; omega) Hall.out
        have HG := Lib.hid hg; clear hg
        go_wp2
        go_ret3
        refine ⟨ret3 ?_ ?_ ?_, rfl⟩ <;> simp only [grp] <;> rw [if_pos HG.out] <;> rfl
    · obtain rfl : k = n := by omega
      have hg := gE_ge l k (by have := Hl.out; omega) Hall.out
      have HG := Lib.hid hg; clear hg
      by_cases hmn : most ≤ k
      · go_wp2
        go_ret3
        refine ⟨ret3 ?_ ?_ ?_, rfl⟩ <;> simp only [grp] <;> rw [if_pos (by have := HG.out; omega)] <;> rfl
      · go_wp2
        go_ret3
        have := HG.out; have := gE_le l; have := Hl.out
        refine ⟨ret3 ?_ ?_ ?_, rfl⟩ <;> simp only [grp] <;> rw [if_neg (by omega), if_pos (by omega)] <;> rfl
end Go.Proofs.Ytbeemkamjachpaa
