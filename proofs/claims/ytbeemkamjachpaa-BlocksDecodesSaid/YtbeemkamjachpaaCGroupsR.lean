/- The reference's reader of groups, by a contract: for every slice of bytes and at most ten groups it returns grpR, and leaves the world as it was. -/
import Derived.Test.YtbeemkamjachpaaMem
import Derived.Test.YtbeemkamjachpaaCNum
namespace Go.Proofs.Ytbeemkamjachpaa
open Go.RowKit
theorem vm_round (x c y : Nat) (h : (128 * x + c % 128) % 18446744073709551616 = y) :
    Value.int .u64 (IntKind.u64.wrap (IntKind.u64.wrap (128 * (x : Int)) + (c : Int) % 128)) = .int .u64 (y : Int) := by
  rw [IntKind.wrap_u64, IntKind.wrap_u64]; congr 1; omega
set_option maxRecDepth 100000 in
set_option maxHeartbeats 400000 in
theorem groupsR_any (A : Option Addr) (n c most : Nat) (l : List UInt8) (w : World) (hr : Rd w w.heap.size L8 A n l) (hn : n ≤ 9223372036854775807) (hm : most ≤ 10) :
    Calls Try.prog 76 #[.slice A n c, .int .i64 (most : Nat)] w fun e w' => e = .returned (.tuple #[.int .u64 ((grpR l most).1 : Nat), .int .i64 ((grpR l most).2.1 : Nat), .int .i64 ((grpR l most).2.2 : Nat)]) ∧ w = w' := by
  have hl := hr.len
  go_enter Try.func76, Try.ntmps76
  go_wp2
  go_loop [7] (fun i => ∃ k : Nat, k ≤ n ∧ k ≤ most ∧ i = .int .i64 (k : Nat) ∧ ∀ j, j < k → 128 ≤ (l.getD j 0).toNat) (fun i => n - (intOf i).toNat)
  case atStart => exact ⟨0, by omega, by omega, rfl, by omega⟩
  case round =>
    obtain ⟨k, hk, hkm, rfl, hall⟩ := hrel
    have Hall := Lib.hid hall; clear hall
    have Hl := Lib.hid hl; clear hl
    by_cases hkm' : k < most
    · have e1 : ((k : Int) == (most : Int)) = false := by simp; omega
      by_cases hlt : k < n
      · have e2 : ((k : Int) == (n : Int)) = false := by simp; omega
        obtain ⟨ad, rfl, hb, hcell, hkl⟩ := hr.byte hlt
        have HR := Lib.hid hr; clear hr
        generalize hc : l.getD k 0 = ch at hcell
        have Hc := Lib.hid hc; clear hc
        by_cases hge : 128 ≤ (ch.toNat : Int)
        · go_wp2
          go_round
          case rel =>
            refine ⟨k + 1, by omega, by omega, by go_num, fun j hj => ?_⟩
            rcases Nat.lt_or_ge j k with h | h
            · exact Hall.out j h
            · obtain rfl : j = k := by omega
              rw [Hc.out]; omega
          case measure => simp [intOf]; omega
        · have hg := gE_eq l k hkl Hall.out (by rw [Hc.out]; omega)
          have HG := Lib.hid hg; clear hg
          by_cases hbad : 0 < k ∧ ch.toNat = 0
          · obtain ⟨h0, hz⟩ := hbad
            have e3 : ((ch.toNat : Int) == 0) = true := by simp [hz]
            have Hz := Lib.hid hz; clear hz
            go_wp2
            go_ret3
            have hx : l.getD k 0 = 0 := by rw [Hc.out, ← UInt8.toNat_inj]; exact Hz.out
            refine ⟨ret3 ?_ ?_ ?_, rfl⟩ <;> simp only [grpR, HG.out] <;> rw [if_neg (by omega), if_neg (by have := Hl.out; omega), if_pos ⟨h0, hx⟩] <;> rfl
          · have hx : ¬ (0 < k ∧ l.getD k 0 = 0) := fun h => hbad ⟨h.1, by rw [← Hc.out, h.2]; rfl⟩
            by_cases hbig : k = 9 ∧ 1 < ch.toNat
            · obtain ⟨h9, h1⟩ := hbig
              have e3 : ((ch.toNat : Int) == 0) = false := by simp; omega
              have e4 : ((k : Int) == 9) = true := by simp; omega
              have h0 : 0 < k := by omega
              have H9 := Lib.hid h9; clear h9
              have h1' : (1 : Int) < (ch.toNat : Int) := by omega
              go_wp2
              go_ret3
              refine ⟨ret3 ?_ ?_ ?_, rfl⟩ <;> simp only [grpR, HG.out] <;> rw [if_neg (by omega), if_neg (by have := Hl.out; omega), if_neg hx, if_pos ⟨H9.out, by rw [Hc.out]; exact h1⟩] <;> rfl
            · have HX := Lib.hid (show (grpR l most) = (vm (l.take (k + 1)), k + 1, 0) by
                simp only [grpR, HG.out]
                rw [if_neg (by omega), if_neg (by have := Hl.out; omega), if_neg hx, if_neg (by rw [Hc.out]; exact hbig)])
              have hcases : (((k : Int) == 9) = true ∧ 0 < k ∧ ((ch.toNat : Int) == 0) = false ∧ ¬ (1 : Int) < (ch.toNat : Int)) ∨ (((k : Int) == 9) = false ∧ 0 < k ∧ ((ch.toNat : Int) == 0) = false) ∨ (((k : Int) == 9) = false ∧ ¬ 0 < k) := by
                simp only [beq_iff_eq, beq_eq_false_iff_ne]; omega
              clear hx hbad hbig
              have Hch := Lib.hid hcell; clear hcell
              rcases hcases with ⟨e3, e4, e5, e6⟩ | ⟨e3, e4, e5⟩ | ⟨e3, e4⟩
              all_goals
                have hcell := Hch.out
                go_wp2
                clear hcell
                go_loop [8, 9] (fun x i => ∃ q : Int, -1 ≤ q ∧ q ≤ k ∧ i = .int .i64 q ∧ x = .int .u64 (vm ((l.take (k + 1)).drop (q + 1).toNat) : Nat)) (fun _ i => (intOf i + 1).toNat)
                case atStart => exact ⟨k, by omega, by omega, rfl, by rw [show ((k : Int) + 1).toNat = k + 1 by omega, List.drop_of_length_le (by simp; omega)]; rfl⟩
                case round =>
                  obtain ⟨q, hq1, hq2, rfl, rfl⟩ := hrel
                  by_cases hq : 0 ≤ q
                  · obtain ⟨j, rfl⟩ := Int.eq_ofNat_of_zero_le hq
                    obtain ⟨ad', had, hb', hcell', hjl⟩ := HR.out.byte (show j < n by omega)
                    obtain rfl : ad = ad' := by injection had
                    have Hch := Lib.hid Hch.out
                    have hvs := vm_step (l.take (k + 1)) j (by simp; omega)
                    rw [getD_take l (k + 1) j (by omega)] at hvs
                    have HV := Lib.hid hvs; clear hvs
                    generalize hcj : l.getD j 0 = cj at hcell' 
                    have Hcj := Lib.hid hcj; clear hcj
                    have ej : ((j : Int) + 1).toNat = j + 1 := by omega
                    go_wp2
                    go_round
                    case rel =>
                      refine ⟨(j : Int) - 1, by omega, by omega, rfl, ?_⟩
                      rw [show ((j : Int) - 1 + 1).toNat = j by omega]
                      exact vm_round _ _ _ (by have := HV.out; rw [Hcj.out] at this; exact this)
                    case measure => simp [intOf]
                  · obtain rfl : q = -1 := by omega
                    go_wp2
                    go_ret3
                    refine ⟨ret3 ?_ ?_ ?_, rfl⟩ <;> rw [HX.out] <;> rfl
      · obtain rfl : k = n := by omega
        have hg := gE_ge l k (by have := Hl.out; omega) Hall.out
        have HG := Lib.hid hg; clear hg
        go_wp2
        go_ret3
        have := HG.out; have := gE_le l; have := Hl.out
        refine ⟨ret3 ?_ ?_ ?_, rfl⟩ <;> simp only [grpR] <;> rw [if_neg (by omega), if_pos (by omega)] <;> rfl
    · obtain rfl : k = most := by omega
      have hg := gE_ge l k (by have := Hl.out; omega) Hall.out
      have HG := Lib.hid hg; clear hg
      by_cases hlt : k < n
      all_goals
        go_wp2
        go_ret3
        refine ⟨ret3 ?_ ?_ ?_, rfl⟩ <;> simp only [grpR] <;> rw [if_pos HG.out] <;> rfl
end Go.Proofs.Ytbeemkamjachpaa
