/- The reference's reader of one signed number, by a contract. -/
import Derived.Test.YtogagcdlkhinjaaReaderM
namespace Go.Proofs.Ytogagcdlkhinjaa
open Go.RowKit
set_option maxRecDepth 100000
set_option maxHeartbeats 400000 in
theorem unsignedR_any (u : Nat) (hu : u < 18446744073709551616) (w : World) : Calls Try.prog 39 #[.int .u64 (u : Nat)] w fun e w' => e = .returned (.int .i64 (unsg u)) ∧ w = w' := by
  have HU := Lib.hid hu; have hu2 : (u : Int) < 18446744073709551616 := by omega
  by_cases ho : u % 2 = 1
  · have e1 : ((u : Int) % 2 == 0) = false := by simp; omega
    have hv : unsg u = -1 - ((u / 2 : Nat) : Int) := by unfold unsg; rw [if_pos ho]
    have HV := Lib.hid hv; clear hv ho hu
    go_enter Try.func39, Try.ntmps39
    go_wp2
    go_returns
    rw [HV.out]
    exact ⟨ret1 (by omega), rfl⟩
  · have e1 : ((u : Int) % 2 == 0) = true := by simp; omega
    have hv : unsg u = ((u / 2 : Nat) : Int) := by unfold unsg; rw [if_neg ho]
    have HV := Lib.hid hv; clear hv ho hu
    go_enter Try.func39, Try.ntmps39
    go_wp2
    go_returns
    rw [HV.out]
    exact ⟨ret1 (by omega), rfl⟩
theorem grpR_lt (l : List UInt8) (m : Nat) : (grpR l m).1 < 18446744073709551616 := by
  unfold grpR vm; split <;> (try split) <;> (try split) <;> (try split) <;> simp <;> omega
set_option maxHeartbeats 1000000 in
theorem oneSig_any (A : Option Addr) (n c : Nat) (l : List UInt8) (w : World) (hr : Rd w w.heap.size L8 A n l) (hn : n ≤ 9223372036854775807) :
    Calls Try.prog 23 #[.slice A n c, .agg #[.int .u8 1, .int .i64 0, .bool false, .string ⟨#[]⟩, .int .i64 0]] w fun e w' => e = .returned (.tuple #[.agg #[.int .u8 1, .int .i64 (unsg (grpR l 10).1), .bool false, .string ⟨#[]⟩, .int .i64 0], .int .i64 ((grpR l 10).2.1 : Nat), .int .i64 ((grpR l 10).2.2 : Nat)]) ∧ Below w.heap.size w w' := by
  have hlt := grpR_lt l 10
  generalize hg : grpR l 10 = g at hlt
  have HG := Lib.hid hg; clear hg
  obtain ⟨g1, g2, g3⟩ := g
  have HL := Lib.hid hlt; clear hlt
  have hr1 := hr.alloc (Nat.le_refl _) (.cells #[.int .u8 1, .int .i64 0, .bool false, .string ⟨#[]⟩, .int .i64 0] 51)
  have HR := Lib.hid hr; clear hr hr1
  go_enter Try.func23, Try.ntmps23
  go_wp2_with fail
  refine (groupsR_any A n c 10 l _ (((((HR.out.alloc (Nat.le_refl _) _).alloc (by simp) _).alloc (by simp; omega) _)).more (by simp; omega)) hn (by decide)).mono ?_
  rintro e w' ⟨rfl, rfl⟩
  rw [HG.out]
  go_wp2_with fail
  refine (unsignedR_any g1 HL.out _).mono ?_
  rintro e w' ⟨rfl, rfl⟩
  go_wp2
  go_returns
  exact ⟨rfl, (((Below.refl _ _).alloc (Nat.le_refl _) _).alloc (by simp) _).alloc (by simp; omega) _⟩
/-- Both readers of a signed number agree. -/
theorem rSig_R (l : List UInt8) : ((rSig l).2.2 ≠ 0 ↔ (grpR l 10).2.2 ≠ 0) ∧ ((rSig l).2.2 ≠ 0 → (rSig l).1 = 0) ∧ ((rSig l).2.2 = 0 → (rSig l).1 = unsg (grpR l 10).1) := by
  unfold rSig grpR grp
  by_cases h1 : 10 ≤ gE l
  · simp [h1]
  · rw [if_neg h1, if_neg h1]
    by_cases h2 : gE l = l.length
    · simp [h2]
    · rw [if_neg h2, if_neg h2]
      by_cases h3 : 0 < gE l ∧ l.getD (gE l) 0 = 0
      · rw [if_pos h3, if_pos h3]; simp
      · rw [if_neg h3, if_neg h3]
        by_cases h4 : gE l = 9 ∧ 1 < (l.getD (gE l) 0).toNat
        · rw [if_pos h4]
          have : (gE l + 1 = 10 ∧ 1 < (l.getD 9 0).toNat) := ⟨by omega, by rw [← h4.1]; exact h4.2⟩
          simp only [ne_eq, not_true_eq_false, if_false, this, and_self, if_true]
          simp
        · rw [if_neg h4]
          have hn : ¬ (gE l + 1 = 10 ∧ 1 < (l.getD 9 0).toNat) := fun h => h4 ⟨by omega, by rw [show gE l = 9 by omega]; exact h.2⟩
          simp only [ne_eq, not_true_eq_false, if_false, if_neg hn]
          simp
end Go.Proofs.Ytogagcdlkhinjaa
