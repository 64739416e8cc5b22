/- Two changes joined by a comma, in plain Lean. -/
import Derived.Test.YtgegkjjknlfkpaaDoorApply
namespace Go.Proofs.YtgegkjjknlfkpaaDoor
theorem clz_fuel (s : List UInt8) : ∀ f g k, k ≤ s.length → s.length + 1 ≤ f + k → s.length + 1 ≤ g + k → clz f s k = clz g s k := by
  intro f
  induction f with
  | zero => intro g k hk h1 _; omega
  | succ f ih =>
    intro g k hk h1 h2
    cases g with
    | zero => omega
    | succ g =>
      rw [clz, clz]
      simp only
      by_cases hc : (names s k).length = 0 ∨ s.length ≤ k + (names s k).length ∨ isSign (s.getD (k + (names s k).length) 0) = false
      · rw [if_pos hc, if_pos hc]
      · rw [if_neg hc, if_neg hc]
        generalize hat3 : k + (names s k).length + 1 + (letters s (k + (names s k).length + 1)).length = at3
        by_cases h3 : s.length ≤ at3
        · rw [if_pos h3, if_pos h3]
        · rw [if_neg h3, if_neg h3, ih g (at3 + 1) (by omega) (by omega) (by omega)]
section
variable (x y : List UInt8)
theorem tw_join (p : UInt8 → Bool) (hp : p 44 = false) (k : Nat) (hk : k ≤ x.length) : ((x ++ 44 :: y).drop k).takeWhile p = (x.drop k).takeWhile p := by
  rw [List.drop_append_of_le_length hk]
  generalize x.drop k = z
  induction z with
  | nil => simp [hp]
  | cons a r ih => rw [List.cons_append, List.takeWhile_cons, List.takeWhile_cons, ih]
theorem names_join (k : Nat) (hk : k ≤ x.length) : names (x ++ 44 :: y) k = names x k := tw_join x y isName (by decide) k hk
theorem letters_join (k : Nat) (hk : k ≤ x.length) : letters (x ++ 44 :: y) k = letters x k := tw_join x y isLetter (by decide) k hk
theorem get_join (k : Nat) (hk : k < x.length) : (x ++ 44 :: y).getD k 0 = x.getD k 0 := by
  rw [List.getD_eq_getElem?_getD, List.getD_eq_getElem?_getD, List.getElem?_append_left hk]
theorem get_comma : (x ++ 44 :: y).getD x.length 0 = 44 := by
  rw [List.getD_eq_getElem?_getD, List.getElem?_append_right (Nat.le_refl _)]; simp
theorem len_join : (x ++ 44 :: y).length = x.length + 1 + y.length := by simp; omega
theorem drop_join (j : Nat) : (x ++ 44 :: y).drop (x.length + 1 + j) = y.drop j := by
  rw [show x.length + 1 + j = x.length + (j + 1) by omega, List.drop_append, List.drop_eq_nil_of_le (by omega), List.nil_append, show x.length + (j + 1) - x.length = j + 1 by omega, List.drop_succ_cons]
theorem get_after (j : Nat) : (x ++ 44 :: y).getD (x.length + 1 + j) 0 = y.getD j 0 := by
  rw [List.getD_eq_getElem?_getD, List.getD_eq_getElem?_getD, List.getElem?_append_right (by omega), show x.length + 1 + j - x.length = j + 1 by omega]; simp
theorem clz_shift : ∀ f j, (clz f (x ++ 44 :: y) (x.length + 1 + j)).1 = (clz f y j).1 ∧ (clz f (x ++ 44 :: y) (x.length + 1 + j)).2.2 = (clz f y j).2.2 := by
  intro f
  induction f with
  | zero => intro j; exact ⟨rfl, rfl⟩
  | succ f ih =>
    intro j
    have hn : ∀ j, names (x ++ 44 :: y) (x.length + 1 + j) = names y j := fun j => by unfold names; rw [drop_join]
    have hl : ∀ j, letters (x ++ 44 :: y) (x.length + 1 + j) = letters y j := fun j => by unfold letters; rw [drop_join]
    have hca : ∀ a, clAt (x ++ 44 :: y) (x.length + 1 + j) (x.length + 1 + a) = clAt y j a := fun a => by
      unfold clAt clNames
      rw [hn, get_after, show x.length + 1 + a + 1 = x.length + 1 + (a + 1) by omega, hl]
    rw [clz, clz]
    simp only
    rw [hn, len_join, show x.length + 1 + j + (names y j).length = x.length + 1 + (j + (names y j).length) by omega]
    generalize j + (names y j).length = a1
    rw [get_after, show x.length + 1 + a1 + 1 = x.length + 1 + (a1 + 1) by omega, hl, hca]
    by_cases hc : (names y j).length = 0 ∨ y.length ≤ a1 ∨ isSign (y.getD a1 0) = false
    · rw [if_pos hc, if_pos (by rcases hc with h | h | h; exact .inl h; exact .inr (.inl (by omega)); exact .inr (.inr h))]; exact ⟨rfl, rfl⟩
    · rw [if_neg hc, if_neg (by rintro (h | h | h); exact hc (.inl h); exact hc (.inr (.inl (by omega))); exact hc (.inr (.inr h)))]
      rw [show x.length + 1 + (a1 + 1) + (letters y (a1 + 1)).length = x.length + 1 + (a1 + 1 + (letters y (a1 + 1)).length) by omega]
      generalize a1 + 1 + (letters y (a1 + 1)).length = a3
      rw [get_after, show x.length + 1 + a3 + 1 = x.length + 1 + (a3 + 1) by omega]
      by_cases h3 : y.length ≤ a3
      · rw [if_pos h3, if_pos (by omega)]; exact ⟨rfl, rfl⟩
      · rw [if_neg h3, if_neg (by omega)]
        by_cases h4 : y.getD a3 0 ≠ 44
        · rw [if_pos h4, if_pos h4]; exact ⟨rfl, rfl⟩
        · rw [if_neg h4, if_neg h4, (ih (a3 + 1)).1, (ih (a3 + 1)).2]
          split <;> exact ⟨rfl, rfl⟩
theorem clz_pre : ∀ f F k, k ≤ x.length → x.length + 1 ≤ f + k → (x ++ 44 :: y).length + 1 ≤ F + k →
    (clz F (x ++ 44 :: y) k).2.2 = ((clz f x k).2.2 && (clz (y.length + 1) y 0).2.2) ∧
    ((clz F (x ++ 44 :: y) k).2.2 = true → (clz F (x ++ 44 :: y) k).1 = (clz f x k).1 ++ (clz (y.length + 1) y 0).1) := by
  intro f
  induction f with
  | zero => intro F k hk h1 _; omega
  | succ f ih =>
    intro F k hk h1 h2
    have hlen := len_join x y
    cases F with
    | zero => omega
    | succ F =>
      rw [clz, clz]
      simp only
      rw [names_join x y k hk]
      have hnl := names_le x k hk
      have hca : ∀ a, a < x.length → clAt (x ++ 44 :: y) k a = clAt x k a := fun a ha => by
        unfold clAt clNames
        rw [names_join x y k hk, get_join x y a ha, letters_join x y (a + 1) (by omega)]
      generalize hk1 : k + (names x k).length = a1 at *
      by_cases hc : (names x k).length = 0 ∨ x.length ≤ a1 ∨ isSign (x.getD a1 0) = false
      · rw [if_pos hc, if_pos]
        · exact ⟨rfl, fun h => by cases h⟩
        · rcases hc with h | h | h
          · exact .inl h
          · obtain rfl : a1 = x.length := by omega
            exact .inr (.inr (by rw [get_comma]; decide))
          · by_cases ha : a1 < x.length
            · exact .inr (.inr (by rw [get_join x y a1 ha]; exact h))
            · obtain rfl : a1 = x.length := by omega
              exact .inr (.inr (by rw [get_comma]; decide))
      · have ha1 : a1 < x.length := by
          rcases Nat.lt_or_ge a1 x.length with h | h
          · exact h
          · exact absurd (.inr (.inl h)) hc
        rw [if_neg hc, if_neg (by rw [get_join x y a1 ha1]; rintro (h | h | h); exact hc (.inl h); omega; exact hc (.inr (.inr h)))]
        rw [letters_join x y (a1 + 1) (by omega), hca a1 ha1]
        have hll := letters_le x (a1 + 1) (by omega)
        generalize ha3 : a1 + 1 + (letters x (a1 + 1)).length = a3 at *
        by_cases h3 : x.length ≤ a3
        · obtain rfl : a3 = x.length := by omega
          rw [if_pos (Nat.le_refl _), if_neg (by omega), get_comma, if_neg (by simp)]
          have hs := clz_shift x y F 0
          have hfu := clz_fuel y F (y.length + 1) 0 (by omega) (by omega) (by omega)
          simp only [Nat.add_zero] at hs
          rw [hs.1, hs.2, hfu]
          by_cases hok : (clz (y.length + 1) y 0).2.2 = true
          · rw [if_pos hok, hok]; exact ⟨rfl, fun _ => rfl⟩
          · rw [if_neg hok]
            have : (clz (y.length + 1) y 0).2.2 = false := by simpa using hok
            rw [this]; exact ⟨rfl, fun h => by cases h⟩
        · rw [if_neg h3, if_neg (by omega), get_join x y a3 (by omega)]
          by_cases h4 : x.getD a3 0 ≠ 44
          · rw [if_pos h4, if_pos h4]; exact ⟨rfl, fun h => by cases h⟩
          · rw [if_neg h4, if_neg h4]
            obtain ⟨i1, i2⟩ := ih F (a3 + 1) (by omega) (by omega) (by omega)
            by_cases hok : (clz F (x ++ 44 :: y) (a3 + 1)).2.2 = true
            · rw [if_pos hok, i2 hok]
              rw [hok] at i1
              have hx : (clz f x (a3 + 1)).2.2 = true := by
                cases h : (clz f x (a3 + 1)).2.2
                · rw [h] at i1; simp at i1
                · rfl
              have hy : (clz (y.length + 1) y 0).2.2 = true := by
                cases h : (clz (y.length + 1) y 0).2.2
                · rw [h] at i1; simp at i1
                · rfl
              rw [if_pos hx, hy]; exact ⟨rfl, fun _ => rfl⟩
            · rw [if_neg hok]
              have hok' : (clz F (x ++ 44 :: y) (a3 + 1)).2.2 = false := by simpa using hok
              rw [hok'] at i1
              refine ⟨?_, fun h => by cases h⟩
              by_cases hx : (clz f x (a3 + 1)).2.2 = true
              · rw [if_pos hx]; rw [hx] at i1; simpa using i1
              · rw [if_neg hx]; rfl
theorem joins_law (m : Nat) (hx : x.length ≤ 40) (hy : y.length ≤ 40) :
    (((applyM m x).2.2 = 0 ∧ (applyM (applyM m x).1 y).2.2 = 0) → (applyM m (x ++ 44 :: y)).2.2 = 0 ∧ (applyM m (x ++ 44 :: y)).1 = (applyM (applyM m x).1 y).1) ∧
    (¬ ((applyM m x).2.2 = 0 ∧ (applyM (applyM m x).1 y).2.2 = 0) → (applyM m (x ++ 44 :: y)).2.2 = 30 ∧ (applyM m (x ++ 44 :: y)).1 = 0) := by
  have hlen := len_join x y
  obtain ⟨p1, p2⟩ := clz_pre x y (x.length + 1) ((x ++ 44 :: y).length + 1) 0 (by omega) (by omega) (by omega)
  unfold applyM
  rw [if_neg (show ¬ 100 < x.length by omega), if_neg (show ¬ 100 < y.length by omega), if_neg (show ¬ 100 < (x ++ 44 :: y).length by omega)]
  generalize clz ((x ++ 44 :: y).length + 1) (x ++ 44 :: y) 0 = r at p1 p2
  generalize clz (x.length + 1) x 0 = rx at p1 p2
  generalize clz (y.length + 1) y 0 = ry at p1 p2
  obtain ⟨l1, o1, k1⟩ := rx; obtain ⟨l2, o2, k2⟩ := ry; obtain ⟨l3, o3, k3⟩ := r
  simp only at p1 p2 ⊢
  subst p1
  cases k1 <;> cases k2 <;> simp_all
end
end Go.Proofs.YtgegkjjknlfkpaaDoor
