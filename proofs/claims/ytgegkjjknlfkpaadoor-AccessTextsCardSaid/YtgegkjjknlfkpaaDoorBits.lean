/- The access package's tables and first functions, by contracts. -/
import Derived.Test.YtgegkjjknlfkpaaDoorNums
namespace Go.Proofs.YtgegkjjknlfkpaaDoor
open Go.RowKit
set_option maxRecDepth 100000
/-- The table of the classes' places, as the program lays it. -/
structure Glob (w : World) : Prop where
  c0 : w.cell? ⟨0, 0, none⟩ = some (.int .i64 6)
  c1 : w.cell? ⟨0, 1, none⟩ = some (.int .i64 3)
  c2 : w.cell? ⟨0, 2, none⟩ = some (.int .i64 0)
  lt : 0 < w.heap.size
theorem Glob.after {w w' : World} {B : Nat} (h : Glob w) (hB : 0 < B) (hb : Below B w w') : Glob w' := by
  have e : ∀ o, w'.cell? ⟨0, o, none⟩ = w.cell? ⟨0, o, none⟩ := fun o => by
    have := hb.block 0 hB
    simp only [World.cell?, this]
  exact ⟨(e 0).trans h.c0, (e 1).trans h.c1, (e 2).trans h.c2, Nat.lt_of_lt_of_le h.lt hb.size⟩
theorem valid_yes (m : Nat) (w : World) (h : m ≤ 2047) : Calls Tryd.prog 23 #[.int .i64 (m : Nat)] w fun e w' => e = .returned (.bool true) ∧ w = w' := by
  have e0 : decide (0 ≤ (m : Int)) = true := by simp
  have e1 : decide ((m : Int) ≤ 2047) = true := by simp; omega
  go_enter Tryd.func23, Tryd.ntmps23
  go_wp2
  go_returns
  exact ⟨rfl, rfl⟩
theorem valid_no (m : Int) (w : World) (h : m < 0 ∨ 2047 < m) : Calls Tryd.prog 23 #[.int .i64 m] w fun e w' => e = .returned (.bool false) ∧ w = w' := by
  by_cases h0 : m < 0
  · have e0 : decide (0 ≤ m) = false := by simp; omega
    go_enter Tryd.func23, Tryd.ntmps23
    go_wp2
    go_returns
    exact ⟨rfl, rfl⟩
  · have e0 : decide (0 ≤ m) = true := by simp; omega
    have e1 : decide (m ≤ 2047) = false := by simp; omega
    go_enter Tryd.func23, Tryd.ntmps23
    go_wp2
    go_returns
    exact ⟨rfl, rfl⟩
/-- The bits of a class. -/
def bitsN (m c : Nat) : Nat := m / 8 ^ (2 - c) % 8
theorem bits_yes (m c : Nat) (w : World) (hg : Glob w) (hm : m ≤ 2047) (hc : c ≤ 2) : Calls Tryd.prog 14 #[.int .i64 (m : Nat), .int .i64 (c : Nat)] w fun e w' => e = .returned (.int .i64 (bitsN m c : Nat)) ∧ w = w' := by
  have c0 := hg.c0; have c1 := hg.c1; have c2 := hg.c2
  have hand : ∀ x : Nat, x ≤ 2047 → bits .and .i64 (x : Int) 7 = ((x % 8 : Nat) : Int) := fun x hx => by
    have := i64_and_nat x 7 (by omega) (by decide)
    rw [show x &&& 7 = x % 8 from Nat.and_two_pow_sub_one_eq_mod x 3] at this
    exact this
  obtain ⟨d, hd⟩ : ∃ d : Nat, d = m / 8 ^ (2 - c) := ⟨_, rfl⟩
  have hd7 : d ≤ 2047 := by rw [hd]; exact Nat.le_trans (Nat.div_le_self _ _) hm
  have hand' := hand d hd7
  have hb : bitsN m c = d % 8 := by rw [hd]; rfl
  rw [hb]
  clear hb hand hg
  rcases (show c = 0 ∨ c = 1 ∨ c = 2 by omega) with rfl | rfl | rfl
  · have hdv : (m : Int) / 64 = (d : Int) := by rw [hd]; rfl
    clear hd
    go_enter Tryd.func14, Tryd.ntmps14
    go_wp2_with fail
    refine (valid_yes _ w hm).mono ?_
    rintro e w' ⟨rfl, rfl⟩
    go_wp2
    go_returns
    exact ⟨rfl, rfl⟩
  · have hdv : (m : Int) / 8 = (d : Int) := by rw [hd]; rfl
    clear hd
    go_enter Tryd.func14, Tryd.ntmps14
    go_wp2_with fail
    refine (valid_yes _ w hm).mono ?_
    rintro e w' ⟨rfl, rfl⟩
    go_wp2
    go_returns
    exact ⟨rfl, rfl⟩
  · obtain rfl : d = m := by rw [hd]; simp
    clear hd
    go_enter Tryd.func14, Tryd.ntmps14
    go_wp2_with fail
    refine (valid_yes _ w hm).mono ?_
    rintro e w' ⟨rfl, rfl⟩
    go_wp2
    go_returns
    exact ⟨rfl, rfl⟩
end Go.Proofs.YtgegkjjknlfkpaaDoor
