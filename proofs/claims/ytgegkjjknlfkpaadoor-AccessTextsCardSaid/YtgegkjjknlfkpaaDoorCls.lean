/- The clauses of a text, plain: what both parsers compute. -/
import Derived.Test.YtgegkjjknlfkpaaDoorCl
namespace Go.Proofs.YtgegkjjknlfkpaaDoor
open Go.RowKit
set_option maxRecDepth 100000
def isName (c : UInt8) : Bool := c == 117 || c == 103 || c == 111 || c == 97
def isSign (c : UInt8) : Bool := c == 43 || c == 45 || c == 61
def isLetter (c : UInt8) : Bool := c == 114 || c == 119 || c == 120 || c == 115 || c == 116
def Cl.zero : Cl := ⟨false, false, false, 0, []⟩
def nm (c : Cl) (x : UInt8) : Cl := { c with u := c.u || (x == 117 || x == 97), g := c.g || (x == 103 || x == 97), o := c.o || (x == 111 || x == 97) }
def names (s : List UInt8) (k : Nat) : List UInt8 := (s.drop k).takeWhile isName
def letters (s : List UInt8) (k : Nat) : List UInt8 := (s.drop k).takeWhile isLetter
/-- The classes that stand at a place. -/
def clNames (s : List UInt8) (k : Nat) : Cl := (names s k).foldl nm Cl.zero
/-- The clause whose sign stands at a place. -/
def clAt (s : List UInt8) (k at1 : Nat) : Cl := { clNames s k with op := s.getD at1 0, ls := letters s (at1 + 1) }
/-- The clauses from a place on, with fuel: the clauses, the offset of the error, whether there is none. -/
def clz : Nat → List UInt8 → Nat → List Cl × Nat × Bool
  | 0, _, k => ([], k, false)
  | f + 1, s, k =>
    let at1 := k + (names s k).length
    if (names s k).length = 0 ∨ s.length ≤ at1 ∨ isSign (s.getD at1 0) = false then ([], at1, false)
    else
      let at3 := at1 + 1 + (letters s (at1 + 1)).length
      if s.length ≤ at3 then ([clAt s k at1], 0, true)
      else if s.getD at3 0 ≠ 44 then ([], at3, false)
      else if (clz f s (at3 + 1)).2.2 = true then (clAt s k at1 :: (clz f s (at3 + 1)).1, 0, true)
      else ([], (clz f s (at3 + 1)).2.1, false)
def comb (cur : List Cl) (r : List Cl × Nat × Bool) : List Cl × Nat × Bool := if r.2.2 = true then (cur ++ r.1, 0, true) else ([], r.2.1, false)
theorem tw_lt {α : Type} (p : α → Bool) (l : List α) (j : Nat) (h : j < (l.takeWhile p).length) : ∃ x, l[j]? = some x ∧ p x = true ∧ (l.takeWhile p)[j]? = some x := by
  induction l generalizing j with
  | nil => simp at h
  | cons a r ih =>
    by_cases ha : p a = true
    · rw [List.takeWhile_cons_of_pos ha] at h ⊢
      cases j with
      | zero => exact ⟨a, by simp, ha, by simp⟩
      | succ j =>
        obtain ⟨x, h1, h2, h3⟩ := ih j (by simpa using h)
        exact ⟨x, by simpa using h1, h2, by simpa using h3⟩
    · rw [List.takeWhile_cons_of_neg ha] at h
      simp at h
theorem tw_end {α : Type} (p : α → Bool) (l : List α) (j : Nat) (h : j ≤ (l.takeWhile p).length) (hx : ∀ x, l[j]? = some x → p x = false) : j = (l.takeWhile p).length := by
  rcases Nat.lt_or_ge j (l.takeWhile p).length with h' | h'
  · obtain ⟨x, h1, h2, _⟩ := tw_lt p l j h'
    rw [hx x h1] at h2; cases h2
  · omega
theorem tw_step {α : Type} (p : α → Bool) (l : List α) (j : Nat) (x : α) (h : j ≤ (l.takeWhile p).length) (hx : l[j]? = some x) (hp : p x = true) : j < (l.takeWhile p).length := by
  induction l generalizing j with
  | nil => simp at hx
  | cons a r ih =>
    cases j with
    | zero =>
      have e : a = x := by simpa using hx
      subst e
      rw [List.takeWhile_cons_of_pos hp]; simp
    | succ j =>
      by_cases ha : p a = true
      · rw [List.takeWhile_cons_of_pos ha] at h ⊢
        have := ih j (by simpa using h) (by simpa using hx)
        simpa using this
      · rw [List.takeWhile_cons_of_neg ha] at h
        simp at h
theorem tw_le {α : Type} (p : α → Bool) (l : List α) : (l.takeWhile p).length ≤ l.length := (List.takeWhile_sublist _).length_le
theorem names_le (s : List UInt8) (k : Nat) (hk : k ≤ s.length) : k + (names s k).length ≤ s.length := by
  have := tw_le isName (s.drop k)
  unfold names; simp at this; omega
theorem letters_le (s : List UInt8) (k : Nat) (hk : k ≤ s.length) : k + (letters s k).length ≤ s.length := by
  have := tw_le isLetter (s.drop k)
  unfold letters; simp at this; omega
theorem drop_get (s : List UInt8) (k j : Nat) (h : k + j < s.length) : (s.drop k)[j]? = some (s.getD (k + j) 0) := by
  rw [List.getElem?_drop, List.getD_eq_getElem?_getD, List.getElem?_eq_getElem h]; rfl
theorem drop_none (s : List UInt8) (k j : Nat) (h : s.length ≤ k + j) : (s.drop k)[j]? = none := by
  rw [List.getElem?_drop]; exact List.getElem?_eq_none h
/-- The next name. -/
theorem names_more (s : List UInt8) (k j : Nat) (hj : j ≤ (names s k).length) (h : k + j < s.length) (hn : isName (s.getD (k + j) 0) = true) : j < (names s k).length ∧ ((names s k).take (j + 1)).foldl nm Cl.zero = nm (((names s k).take j).foldl nm Cl.zero) (s.getD (k + j) 0) := by
  have hlt := tw_step isName (s.drop k) j _ hj (drop_get s k j h) hn
  refine ⟨hlt, ?_⟩
  obtain ⟨x, h1, _, h3⟩ := tw_lt isName (s.drop k) j hlt
  rw [drop_get s k j h] at h1
  have e : x = s.getD (k + j) 0 := (Option.some.inj h1).symm
  rw [e] at h3
  have h4 : (names s k)[j]? = some (s.getD (k + j) 0) := h3
  rw [List.take_add_one, h4, Option.toList_some, List.foldl_append]; rfl
theorem names_end (s : List UInt8) (k j : Nat) (hj : j ≤ (names s k).length) (h : s.length ≤ k + j ∨ isName (s.getD (k + j) 0) = false) : j = (names s k).length := by
  refine tw_end isName (s.drop k) j hj fun x hx => ?_
  rcases Nat.lt_or_ge (k + j) s.length with h' | h'
  · rcases h with h | h
    · omega
    · rw [drop_get s k j h'] at hx; rw [← Option.some.inj hx]; exact h
  · rw [drop_none s k j h'] at hx; cases hx
theorem letters_more (s : List UInt8) (k j : Nat) (hj : j ≤ (letters s k).length) (h : k + j < s.length) (hn : isLetter (s.getD (k + j) 0) = true) : j < (letters s k).length :=
  tw_step isLetter (s.drop k) j _ hj (drop_get s k j h) hn
theorem letters_end (s : List UInt8) (k j : Nat) (hj : j ≤ (letters s k).length) (h : s.length ≤ k + j ∨ isLetter (s.getD (k + j) 0) = false) : j = (letters s k).length := by
  refine tw_end isLetter (s.drop k) j hj fun x hx => ?_
  rcases Nat.lt_or_ge (k + j) s.length with h' | h'
  · rcases h with h | h
    · omega
    · rw [drop_get s k j h'] at hx; rw [← Option.some.inj hx]; exact h
  · rw [drop_none s k j h'] at hx; cases hx
theorem tw_take {α : Type} (p : α → Bool) (l : List α) : l.take (l.takeWhile p).length = l.takeWhile p := by
  have := List.takeWhile_append_dropWhile (p := p) (l := l)
  conv => lhs; arg 2; rw [← this]
  exact List.take_left
theorem letters_take (s : List UInt8) (k : Nat) : (s.drop k).take (letters s k).length = letters s k := tw_take _ _
/-! ### One round. -/
theorem clz_fail1 {f : Nat} {s : List UInt8} {k : Nat} {cur : List Cl} (h : (names s k).length = 0 ∨ s.length ≤ k + (names s k).length ∨ isSign (s.getD (k + (names s k).length) 0) = false) : comb cur (clz (f + 1) s k) = ([], k + (names s k).length, false) := by
  rw [clz]; simp only; rw [if_pos h]; rfl
theorem clz_done {f : Nat} {s : List UInt8} {k at1 : Nat} {cur : List Cl} (e : at1 = k + (names s k).length) (h1 : (names s k).length ≠ 0) (h2 : at1 < s.length) (h3 : isSign (s.getD at1 0) = true) (h4 : s.length ≤ at1 + 1 + (letters s (at1 + 1)).length) :
    comb cur (clz (f + 1) s k) = (cur ++ [clAt s k at1], 0, true) := by
  subst e
  rw [clz]; simp only; rw [if_neg (by rintro (h | h | h) <;> first | exact h1 h | omega | (rw [h3] at h; cases h)), if_pos h4]; rfl
theorem clz_fail3 {f : Nat} {s : List UInt8} {k at1 at3 : Nat} {cur : List Cl} (e : at1 = k + (names s k).length) (h1 : (names s k).length ≠ 0) (h2 : at1 < s.length) (h3 : isSign (s.getD at1 0) = true) (e3 : at3 = at1 + 1 + (letters s (at1 + 1)).length) (h4 : at3 < s.length) (h5 : s.getD at3 0 ≠ 44) :
    comb cur (clz (f + 1) s k) = ([], at3, false) := by
  subst e; subst e3
  rw [clz]; simp only; rw [if_neg (by rintro (h | h | h) <;> first | exact h1 h | omega | (rw [h3] at h; cases h)), if_neg (by omega), if_pos h5]; rfl
theorem clz_more {f : Nat} {s : List UInt8} {k at1 at3 : Nat} {cur : List Cl} (e : at1 = k + (names s k).length) (h1 : (names s k).length ≠ 0) (h2 : at1 < s.length) (h3 : isSign (s.getD at1 0) = true) (e3 : at3 = at1 + 1 + (letters s (at1 + 1)).length) (h4 : at3 < s.length) (h5 : s.getD at3 0 = 44) :
    comb cur (clz (f + 1) s k) = comb (cur ++ [clAt s k at1]) (clz f s (at3 + 1)) := by
  subst e; subst e3
  rw [clz]; simp only; rw [if_neg (by rintro (h | h | h) <;> first | exact h1 h | omega | (rw [h3] at h; cases h)), if_neg (by omega), if_neg (by simpa using h5)]
  unfold comb
  by_cases hh : (clz f s (k + (names s k).length + 1 + (letters s (k + (names s k).length + 1)).length + 1)).2.2 = true
  · rw [if_pos hh]; simp [hh]
  · rw [if_neg hh]; simp [hh]
end Go.Proofs.YtgegkjjknlfkpaaDoor
