/- A clause applied twice, in plain Lean. -/
import Derived.Test.YtgegkjjknlfkpaaDoorApply
namespace Go.Proofs.YtgegkjjknlfkpaaDoor
theorem lv_bit (x : UInt8) (sh i : Nat) (h : i < sh ∨ sh + 3 ≤ i) : (lv x * 2 ^ sh).testBit i = false := by
  rw [Nat.testBit_mul_two_pow]
  rcases h with h | h
  · simp [show ¬ sh ≤ i by omega]
  · have : (lv x).testBit (i - sh) = false := Nat.testBit_lt_two_pow (Nat.lt_of_le_of_lt (lv_le x) (Nat.lt_of_lt_of_le (show 4 < 2 ^ 3 by decide) (Nat.pow_le_pow_right (by decide) (by omega))))
    simp [this]
theorem own1_bit (ls : List UInt8) (a sh i : Nat) (h : i < sh ∨ sh + 3 ≤ i) : (own1 a ls sh).testBit i = a.testBit i := by
  unfold own1
  induction ls generalizing a with
  | nil => rfl
  | cons x r ih => rw [List.foldl_cons, ih, Nat.testBit_or, lv_bit x sh i h, Bool.or_false]
theorem step3_bit (c : Cl) (ls : List UInt8) (a i : Nat) (h : i < 9) : (ls.foldl (step3 c) a).testBit i = a.testBit i := by
  induction ls generalizing a with
  | nil => rfl
  | cons x r ih =>
    rw [List.foldl_cons, ih]
    have h9 : (512 : Nat).testBit i = false := by rw [show (512 : Nat) = 2 ^ 9 from rfl, Nat.testBit_two_pow]; simp; omega
    have h10 : (1024 : Nat).testBit i = false := by rw [show (1024 : Nat) = 2 ^ 10 from rfl, Nat.testBit_two_pow]; simp; omega
    unfold step3 stepT stepS
    split <;> split <;> simp [Nat.testBit_or, h9, h10]
theorem all_bit (sh i : Nat) (h : i < sh ∨ sh + 3 ≤ i) : (7 * 2 ^ sh).testBit i = false := by
  rw [Nat.testBit_mul_two_pow]
  rcases h with h | h
  · simp [show ¬ sh ≤ i by omega]
  · have : (7 : Nat).testBit (i - sh) = false := Nat.testBit_lt_two_pow (Nat.lt_of_lt_of_le (show 7 < 2 ^ 3 by decide) (Nat.pow_le_pow_right (by decide) (by omega)))
    simp [this]
theorem ownC_bit (c : Cl) (k i : Nat) (hk : k < 3) (hc : c.cls k = false) (h1 : shf k ≤ i) (h2 : i < shf k + 3) : ∀ n, n ≤ 3 → (ownC c n).testBit i = false ∧ (allC c n).testBit i = false := by
  intro n
  induction n with
  | zero => intro _; simp [ownC, allC]
  | succ n ih =>
    intro hn
    obtain ⟨i1, i2⟩ := ih (by omega)
    rw [ownC, allC]
    by_cases hkn : n = k
    · subst hkn; rw [hc]; exact ⟨i1, i2⟩
    · have hd : i < shf n ∨ shf n + 3 ≤ i := by
        unfold shf at *
        rcases (show k = 0 ∨ k = 1 ∨ k = 2 by omega) with rfl | rfl | rfl <;> rcases (show n = 0 ∨ n = 1 ∨ n = 2 by omega) with rfl | rfl | rfl <;> simp at * <;> omega
      split
      · exact ⟨by rw [own1_bit _ _ _ _ hd]; exact i1, by rw [Nat.testBit_or, i2, all_bit _ _ hd]; rfl⟩
      · exact ⟨i1, i2⟩
theorem own_bit (c : Cl) (k i : Nat) (hk : k < 3) (hc : c.cls k = false) (h1 : shf k ≤ i) (h2 : i < shf k + 3) : c.own.testBit i = false ∧ c.all.testBit i = false := by
  have hi9 : i < 9 := by
    unfold shf at *
    rcases (show k = 0 ∨ k = 1 ∨ k = 2 by omega) with rfl | rfl | rfl <;> simp at * <;> omega
  obtain ⟨i1, i2⟩ := ownC_bit c k i hk hc h1 h2 3 (Nat.le_refl _)
  have h9 : (512 : Nat).testBit i = false := by rw [show (512 : Nat) = 2 ^ 9 from rfl, Nat.testBit_two_pow]; simp; omega
  have h10 : (1024 : Nat).testBit i = false := by rw [show (1024 : Nat) = 2 ^ 10 from rfl, Nat.testBit_two_pow]; simp; omega
  refine ⟨by unfold Cl.own; rw [step3_bit _ _ _ _ hi9]; exact i1, ?_⟩
  unfold Cl.all
  simp only
  split <;> split <;> simp [Nat.testBit_or, h9, h10, i2]
theorem bitsN_eq (a b k : Nat) (hk : k < 3) (h : ∀ i, shf k ≤ i → i < shf k + 3 → a.testBit i = b.testBit i) : bitsN a k = bitsN b k := by
  have e : ∀ m, bitsN m k = m / 2 ^ shf k % 2 ^ 3 := fun m => by
    unfold bitsN shf
    rcases (show k = 0 ∨ k = 1 ∨ k = 2 by omega) with rfl | rfl | rfl <;> simp
  rw [e, e]
  apply Nat.eq_of_testBit_eq
  intro i
  rw [Nat.testBit_mod_two_pow, Nat.testBit_mod_two_pow, Nat.testBit_div_two_pow, Nat.testBit_div_two_pow]
  by_cases hi : i < 3
  · simp only [hi, decide_true, Bool.true_and]
    exact h _ (by omega) (by omega)
  · simp [hi]
theorem twice_law (m : Nat) (c : Cl) (hm : m < 2048) : ap1 (ap1 m c) c = ap1 m c ∧ ∀ k, k < 3 → c.cls k = false → bitsN (ap1 m c) k = bitsN m k := by
  have ho := c.own_lt
  have ha := c.all_lt
  constructor
  · have h1 := ap1_lt m c hm
    apply Nat.eq_of_testBit_eq
    intro i
    unfold ap1 at *
    split
    · simp only [Nat.testBit_or]
      cases m.testBit i <;> cases c.own.testBit i <;> rfl
    split
    · rw [testBit_andn _ _ _ (by have := andn_le m c.own; omega) (by omega), testBit_andn _ _ _ (by omega) (by omega)]
      cases m.testBit i <;> cases c.own.testBit i <;> rfl
    · have h3 : andn m c.all ||| c.own < 2048 := or_2048 (Nat.lt_of_le_of_lt (andn_le _ _) hm) ho
      rw [Nat.testBit_or, testBit_andn _ _ _ (by omega) (by omega), Nat.testBit_or, testBit_andn _ _ _ (by omega) (by omega)]
      cases m.testBit i <;> cases c.own.testBit i <;> cases c.all.testBit i <;> rfl
  · intro k hk hc
    refine bitsN_eq _ _ k hk fun i h1 h2 => ?_
    obtain ⟨b1, b2⟩ := own_bit c k i hk hc h1 h2
    unfold ap1
    split
    · rw [Nat.testBit_or, b1, Bool.or_false]
    split
    · rw [testBit_andn _ _ _ (by omega) (by omega), b1]; simp
    · rw [Nat.testBit_or, testBit_andn _ _ _ (by omega) (by omega), b1, b2]; simp
theorem applyM_one (m : Nat) (s : List UInt8) (hs : s.length ≤ 100) (c : Cl) (h1 : (clz (s.length + 1) s 0).1 = [c]) (h2 : (clz (s.length + 1) s 0).2.2 = true) : applyM m s = (ap1 m c, 0, 0) := by
  unfold applyM
  rw [if_neg (by omega), if_pos h2, h1]; rfl
end Go.Proofs.YtgegkjjknlfkpaaDoor
