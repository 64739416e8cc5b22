/- Plain laws of Decode and of the reference's Decode: both accept exactly the encodings. -/
import Derived.Test.YtbeemkamjachpaaB32
namespace Go.Proofs.Ytbeemkamjachpaa
open Go.RowKit
set_option maxRecDepth 100000
/-- The states that the reference reads off the bits behind offset p. -/
def stR (p c : Nat) (l : List UInt8) : List UInt8 := (List.range c).map fun i => if bitB (l.drop p) i = true then 1 else 0
theorem stR_len (p c : Nat) (l : List UInt8) : (stR p c l).length = c := by simp [stR]
def posR (l : List UInt8) : Nat := (grp l 9).2.1 + (grp (l.drop (grp l 9).2.1) 9).2.1 + (grp (l.drop ((grp l 9).2.1 + (grp (l.drop (grp l 9).2.1) 9).2.1)) 9).2.1
def okR (l : List UInt8) : Prop := (grp l 9).2.2 = 0 ∧ (grp (l.drop (grp l 9).2.1) 9).2.2 = 0 ∧ ((grp l 9).1 ≤ 1073741824 ∧ 1 ≤ (grp (l.drop (grp l 9).2.1) 9).1 ∧ (grp (l.drop (grp l 9).2.1) 9).1 ≤ 65536) ∧
  (grp (l.drop ((grp l 9).2.1 + (grp (l.drop (grp l 9).2.1) 9).2.1)) 9).2.2 = 0 ∧ l.length = posR l + ((grp (l.drop (grp l 9).2.1) 9).1 + 7) / 8
open Classical in
/-- What the reference's Decode makes of an encoding. -/
noncomputable def dR (l : List UInt8) : Option (Nat × List UInt8) :=
  if okR l ∧ encB (grp l 9).1 (stR (posR l) (grp (l.drop (grp l 9).2.1) 9).1 l) = l then some ((grp l 9).1, stR (posR l) (grp (l.drop (grp l 9).2.1) 9).1 l) else none
/-- First block and states that an encoding can hold. -/
def good (f : Nat) (st : List UInt8) : Prop := f ≤ 1073741824 ∧ 1 ≤ st.length ∧ st.length ≤ 65536 ∧ ∀ x ∈ st, x = 0 ∨ x = 1
theorem stR_good (p c : Nat) (l : List UInt8) : ∀ x ∈ stR p c l, x = 0 ∨ x = 1 := by
  intro x hx
  obtain ⟨i, _, rfl⟩ := List.mem_map.1 hx
  by_cases h : bitB (l.drop p) i = true
  · rw [if_pos h]; exact .inr rfl
  · rw [if_neg h]; exact .inl rfl
theorem dR_some {l : List UInt8} {f : Nat} {st : List UInt8} (h : dR l = some (f, st)) : good f st ∧ l = encB f st := by
  unfold dR at h
  split at h
  · rename_i hh
    injection h with h
    injection h with h1 h2
    subst h1; subst h2
    obtain ⟨⟨-, -, hf, -, -⟩, he⟩ := hh
    exact ⟨⟨hf.1, by rw [stR_len]; exact hf.2.1, by rw [stR_len]; exact hf.2.2, stR_good _ _ _⟩, he.symm⟩
  · cases h
theorem good_small {f : Nat} {st : List UInt8} (h : good f st) : small st := fun x hx => by rcases h.2.2.2 x hx with rfl | rfl <;> decide
theorem good_map {f : Nat} {st : List UInt8} (h : good f st) : (st.map fun x => if (x.toNat : Int) ∈ [(1 : Int), 2] then (1 : UInt8) else 0) = st := by
  have : ∀ x ∈ st, (if (x.toNat : Int) ∈ [(1 : Int), 2] then (1 : UInt8) else 0) = x := fun x hx => by
    rcases h.2.2.2 x hx with rfl | rfl <;> decide
  rw [List.map_congr_left this]; simp
theorem dec_good {f : Nat} {st : List UInt8} (h : good f st) : decR (encB f st) = some (f, st) := by
  rw [dec_enc f st h.1 h.2.1 h.2.2.1, good_map h]
theorem dR_good {f : Nat} {st : List UInt8} (h : good f st) : dR (encB f st) = some (f, st) := by
  have hbl := bitsL_len f st.length (inL f st [1, 2] st.length)
  have hbi := bits_in f st [1, 2] st.length (Nat.le_refl _)
  have hE : encB f st = nat f ++ (nat st.length ++ (nat ((st.length + 7) / 8) ++ bitsL f st.length (inL f st [1, 2] st.length))) := by unfold encB; simp
  generalize hbs : bitsL f st.length (inL f st [1, 2] st.length) = bs at hbl hbi hE
  have h1 := h.1; have h2 := h.2.1; have h3 := h.2.2.1
  have g1 : grp (encB f st) 9 = (f, (nat f).length, 0) := by rw [hE]; exact grp_nat _ _ (by omega)
  have d1 : (encB f st).drop (nat f).length = nat st.length ++ (nat ((st.length + 7) / 8) ++ bs) := by rw [hE, List.drop_left]
  have g2 : grp ((encB f st).drop (nat f).length) 9 = (st.length, (nat st.length).length, 0) := by rw [d1]; exact grp_nat _ _ (by omega)
  have d2 : (encB f st).drop ((nat f).length + (nat st.length).length) = nat ((st.length + 7) / 8) ++ bs := by rw [← List.drop_drop, d1, List.drop_left]
  have g3 : grp ((encB f st).drop ((nat f).length + (nat st.length).length)) 9 = ((st.length + 7) / 8, (nat ((st.length + 7) / 8)).length, 0) := by rw [d2]; exact grp_nat _ _ (by omega)
  have hp : posR (encB f st) = (nat f).length + (nat st.length).length + (nat ((st.length + 7) / 8)).length := by unfold posR; rw [g1]; simp only; rw [g2]; simp only; rw [g3]
  have d3 : (encB f st).drop (posR (encB f st)) = bs := by rw [hp, ← List.drop_drop, d2, List.drop_left]
  have hst : stR (posR (encB f st)) st.length (encB f st) = st := by
    unfold stR
    rw [d3]
    apply List.ext_getElem?
    intro i
    rw [List.getElem?_map]
    by_cases hi : i < st.length
    · have hm := h.2.2.2 _ (List.getElem_mem hi)
      have hg : st.getD i 0 = st[i] := by rw [List.getD_eq_getElem?_getD, List.getElem?_eq_getElem hi]; rfl
      have hbit := hbi i
      rw [hg] at hbit
      have hv : (if bitB bs i = true then (1 : UInt8) else 0) = st[i] := by
        generalize st[i] = x at hm hbit
        rw [hbit]
        rcases hm with rfl | rfl
        · rw [if_neg]
          intro hc
          have := (of_decide_eq_true hc).2
          revert this
          decide
        · rw [if_pos (decide_eq_true ⟨hi, by decide⟩)]
      rw [List.getElem?_range hi, List.getElem?_eq_getElem hi, ← hv]
      rfl
    · rw [List.getElem?_eq_none (by simp; omega), List.getElem?_eq_none (by omega)]; rfl
  have hok : okR (encB f st) := by
    have l5 : (encB f st).length = posR (encB f st) + (st.length + 7) / 8 := by
      rw [hp, hE]
      simp only [List.length_append]
      omega
    unfold okR
    rw [g1, show ((f, (nat f).length, 0) : Nat × Nat × Nat).2.1 = (nat f).length from rfl, g2, show ((st.length, (nat st.length).length, 0) : Nat × Nat × Nat).2.1 = (nat st.length).length from rfl, g3]
    exact ⟨rfl, rfl, ⟨h1, h2, h3⟩, rfl, l5⟩
  unfold dR
  rw [g1]
  simp only
  rw [g2]
  simp only
  rw [hst, if_pos ⟨hok, rfl⟩]
/-- Two rows of bytes with the same bits. -/
theorem byte_ext : ∀ a b : Fin 256, (∀ r : Fin 8, a.val.testBit r.val = b.val.testBit r.val) → a = b := by
  intro a b h
  apply Fin.ext
  apply Nat.eq_of_testBit_eq
  intro i
  by_cases hi : i < 8
  · exact h ⟨i, hi⟩
  · have hp : 256 ≤ 2 ^ i := by have := Nat.pow_le_pow_right (n := 2) (by decide) (show 8 ≤ i by omega); omega
    rw [Nat.testBit_lt_two_pow (Nat.lt_of_lt_of_le a.isLt hp), Nat.testBit_lt_two_pow (Nat.lt_of_lt_of_le b.isLt hp)]
theorem bits_ext (a b : List UInt8) (hl : a.length = b.length) (h : ∀ i, i < 8 * a.length → bitB a i = bitB b i) : a = b := by
  apply List.ext_getElem hl
  intro k hk hk'
  have key : (⟨a[k].toNat, a[k].toNat_lt⟩ : Fin 256) = ⟨b[k].toNat, b[k].toNat_lt⟩ := by
    apply byte_ext
    intro r
    have := h (8 * k + r.val) (by have := r.isLt; omega)
    rw [bitB_test, bitB_test, show (8 * k + r.val) / 8 = k by have := r.isLt; omega, show (8 * k + r.val) % 8 = r.val by have := r.isLt; omega] at this
    rw [List.getD_eq_getElem?_getD, List.getElem?_eq_getElem hk, List.getD_eq_getElem?_getD, List.getElem?_eq_getElem hk'] at this
    exact this
  exact UInt8.toNat_inj.1 (congrArg Fin.val key)
theorem stepR_zero {α : Type} {z : α} {at_ f : Nat} {r : α × Nat × Nat} (h : (stepR z at_ f r).2.2 = 0) : f = 0 ∧ r.2.2 = 0 ∧ stepR z at_ f r = (r.1, at_ + r.2.1, 0) := by
  unfold stepR at h ⊢
  by_cases hf : f ≠ 0
  · rw [if_pos hf] at h; exact absurd h hf
  · rw [if_neg hf] at h ⊢
    by_cases hr : r.2.2 ≠ 0
    · rw [if_pos hr] at h; exact absurd h hr
    · rw [if_neg hr]
      exact ⟨by omega, by omega, rfl⟩
theorem rNum_zero {m : Nat} {l : List UInt8} (h : (rNum (m : Int) l).2.2 = 0) : (grp l 9).2.2 = 0 ∧ (grp l 9).1 ≤ m ∧ rNum (m : Int) l = grp l 9 := by
  unfold rNum at h ⊢
  by_cases hc : (grp l 9).2.2 = 0 ∧ (m : Int) < ((grp l 9).1 : Int)
  · rw [if_pos hc] at h; cases h
  · rw [if_neg hc] at h ⊢
    exact ⟨h, by have : ¬ ((m : Int) < ((grp l 9).1 : Int)) := fun hh => hc ⟨h, hh⟩; omega, rfl⟩
theorem rText_zero {m : Int} {l : List UInt8} (h : (rText m l).2.2 = 0) : (grp l 9).2.2 = 0 ∧ (grp l 9).1 + (grp l 9).2.1 ≤ l.length ∧ rText m l = ((l.drop (grp l 9).2.1).take (grp l 9).1, (grp l 9).2.1 + (grp l 9).1, 0) := by
  unfold rText at h ⊢
  by_cases h1 : (grp l 9).2.2 ≠ 0
  · rw [if_pos h1] at h; exact absurd h h1
  · rw [if_neg h1] at h ⊢
    by_cases h2 : min m 16777216 < ((grp l 9).1 : Int)
    · rw [if_pos h2] at h; cases h
    · rw [if_neg h2] at h ⊢
      by_cases h3 : l.length < (grp l 9).1 + (grp l 9).2.1
      · rw [if_pos h3] at h; cases h
      · rw [if_neg h3]
        exact ⟨by omega, by omega, rfl⟩
theorem ldL_in (f : Nat) : ∀ (u : List Int) (l : List UInt8), (ldL f l u).1 = 0 → ∀ x ∈ u, inR f l.length x = true := by
  intro u
  induction u with
  | nil => intro l _ x hx; cases hx
  | cons y r ih =>
    intro l h x hx
    rw [ldL_cons] at h
    by_cases h1 : inR f l.length y = false
    · rw [if_pos h1] at h; cases h
    · rw [if_neg h1] at h
      by_cases h2 : l.getD (y - (f : Int)).toNat 0 ≠ 0
      · rw [if_pos h2] at h; cases h
      · rw [if_neg h2] at h
        rcases List.mem_cons.1 hx with rfl | hx
        · simpa using h1
        · have := ih _ h x hx
          rwa [List.length_set] at this
/-- The states behind the bits: the list of which the bits are those of the blocks in use. -/
theorem used_in (f : Nat) (bs st : List UInt8) (m : Nat) (hm : st.length ≤ m) (h : ∀ i, i < m → bitB bs i = decide (i < st.length ∧ ((st.getD i 0).toNat : Int) ∈ [(1 : Int), 2])) : usedL f bs m = inL f st [1, 2] st.length := by
  unfold usedL inL
  congr 1
  have e : (List.range m).filter (fun i => bitB bs i) = (List.range m).filter fun i => decide (i < st.length ∧ ((st.getD i 0).toNat : Int) ∈ [(1 : Int), 2]) := List.filter_congr fun i hi => h i (List.mem_range.1 hi)
  rw [e, filter_range _ st.length m hm (fun i hi => decide_eq_false (by omega))]
  exact List.filter_congr fun i hi => decide_eq_decide.2 ⟨fun h => h.2, fun h => ⟨List.mem_range.1 hi, h⟩⟩
/-- What Decode accepts is an encoding of what it returns. -/
theorem decR_some {l : List UInt8} {f : Nat} {st : List UInt8} (h : decR l = some (f, st)) : good f st ∧ l = encB f st := by
  unfold decR decV at h
  split at h
  · cases h
  · rename_i hn
    injection h with h
    injection h with h1 h2
    have hcl : closes (l.length - (dec3 l).2.1) (dec3 l).2.2 = 0 := by
      rcases Nat.eq_zero_or_pos (closes (l.length - (dec3 l).2.1) (dec3 l).2.2) with h0 | h0
      · exact h0
      · exact absurd (.inl (by omega)) hn
    have hbl : (dec3 l).1.length = ((dec2 l).1 + 7) / 8 := by
      rcases Nat.lt_trichotomy (dec3 l).1.length (((dec2 l).1 + 7) / 8) with h0 | h0 | h0
      · exact absurd (.inr (.inl (by omega))) hn
      · exact h0
      · exact absurd (.inr (.inl (by omega))) hn
    have hn1 : 1 ≤ (dec2 l).1 := by
      rcases Nat.lt_or_ge (dec2 l).1 1 with h0 | h0
      · exact absurd (.inr (.inr (.inl h0))) hn
      · exact h0
    have hld : (ldL (dec1 l).1 (List.replicate (dec2 l).1 0) (usedL (dec1 l).1 (dec3 l).1 (8 * (dec3 l).1.length))).1 = 0 := by
      rcases Nat.eq_zero_or_pos (ldL (dec1 l).1 (List.replicate (dec2 l).1 0) (usedL (dec1 l).1 (dec3 l).1 (8 * (dec3 l).1.length))).1 with h0 | h0
      · exact h0
      · exact absurd (.inr (.inr (.inr (by omega)))) hn
    have h32 : (dec3 l).2.2 = 0 ∧ l.length - (dec3 l).2.1 = 0 := by
      unfold closes at hcl
      split at hcl
      · cases hcl
      · rename_i hc
        refine ⟨hcl, ?_⟩
        rcases Nat.eq_zero_or_pos (l.length - (dec3 l).2.1) with h0 | h0
        · exact h0
        · exact absurd ⟨hcl, h0⟩ hc
    obtain ⟨z2, t0, e3⟩ := stepR_zero (show (stepR [] (dec2 l).2.1 (dec2 l).2.2 (rText ((((dec2 l).1 + 7) / 8 : Nat) : Int) (l.drop (dec2 l).2.1))).2.2 = 0 from h32.1)
    obtain ⟨z1, n20, e2⟩ := stepR_zero (show (stepR 0 (dec1 l).2.1 (dec1 l).2.2 (rNum 65536 (l.drop (dec1 l).2.1))).2.2 = 0 from z2)
    obtain ⟨-, n10, e1⟩ := stepR_zero (show (stepR 0 0 0 (rNum 1073741824 (l.drop 0))).2.2 = 0 from z1)
    obtain ⟨g1, b1, r1⟩ := rNum_zero (m := 1073741824) n10
    obtain ⟨g2, b2, r2⟩ := rNum_zero (m := 65536) n20
    obtain ⟨g3, b3, r3⟩ := rText_zero t0
    change dec1 l = _ at e1; change dec2 l = _ at e2; change dec3 l = _ at e3
    change rNum 1073741824 (l.drop 0) = _ at r1; change rNum 65536 (l.drop (dec1 l).2.1) = _ at r2
    rw [r1, List.drop_zero, Nat.zero_add] at e1
    rw [List.drop_zero] at g1 b1
    rw [r2] at e2
    rw [r3] at e3
    obtain ⟨t1, z1'⟩ := grp_enc l g1
    have ea : (dec1 l).2.1 = (grp l 9).2.1 := by rw [e1]
    have ef : (dec1 l).1 = (grp l 9).1 := by rw [e1]
    rw [ea] at e2 g2 b2
    obtain ⟨t2, z2'⟩ := grp_enc _ g2
    have eb : (dec2 l).2.1 = (grp l 9).2.1 + (grp (l.drop (grp l 9).2.1) 9).2.1 := by rw [e2]
    have en : (dec2 l).1 = (grp (l.drop (grp l 9).2.1) 9).1 := by rw [e2]
    rw [eb] at e3 g3 b3
    obtain ⟨t3, z3'⟩ := grp_enc _ g3
    have h3a : (dec3 l).1 = ((l.drop ((grp l 9).2.1 + (grp (l.drop (grp l 9).2.1) 9).2.1)).drop (grp (l.drop ((grp l 9).2.1 + (grp (l.drop (grp l 9).2.1) 9).2.1)) 9).2.1).take (grp (l.drop ((grp l 9).2.1 + (grp (l.drop (grp l 9).2.1) 9).2.1)) 9).1 := by rw [e3]
    have h3b : (dec3 l).2.1 = (grp l 9).2.1 + (grp (l.drop (grp l 9).2.1) 9).2.1 + ((grp (l.drop ((grp l 9).2.1 + (grp (l.drop (grp l 9).2.1) 9).2.1)) 9).2.1 + (grp (l.drop ((grp l 9).2.1 + (grp (l.drop (grp l 9).2.1) 9).2.1)) 9).1) := by rw [e3]
    rw [ef, en] at h2 hld
    rw [ef] at h1
    rw [en] at hn1 hbl
    have hend := h32.2
    rw [h3b] at hend
    generalize (grp l 9).1 = f0 at *
    generalize (grp l 9).2.1 = a at *
    generalize hn0 : (grp (l.drop a) 9).1 = n0 at *
    generalize (grp (l.drop a) 9).2.1 = b at *
    generalize (grp (l.drop (a + b)) 9).1 = q at *
    generalize (grp (l.drop (a + b)) 9).2.1 = c at *
    have hlb : (l.drop (a + b)).length = l.length - (a + b) := List.length_drop
    have hl0 : l.length = a + b + (c + q) := by
      have : a + b ≤ l.length := by
        have := z2'
        rw [List.length_drop] at this
        omega
      omega
    have hbits : (dec3 l).1 = (l.drop (a + b)).drop c := by rw [h3a, List.take_of_length_le]; rw [List.length_drop, List.length_drop]; omega
    have hq : (dec3 l).1.length = q := by rw [hbits, List.length_drop, List.length_drop]; omega
    have hl : l = nat f0 ++ (nat n0 ++ (nat q ++ (dec3 l).1)) := by
      rw [hbits, t3, List.take_append_drop, t2, ← List.drop_drop, List.take_append_drop, t1, List.take_append_drop]
    generalize (dec3 l).1 = bs at *
    have hbs : ∀ i, i < 8 * bs.length → bitB bs i = true → i < n0 := by
      intro i hi hb
      have hx : (f0 : Int) + (i : Nat) ∈ usedL f0 bs (8 * bs.length) := List.mem_map.2 ⟨i, List.mem_filter.2 ⟨List.mem_range.2 hi, hb⟩, rfl⟩
      have := ldL_in _ _ _ hld _ hx
      rw [List.length_replicate] at this
      have := of_decide_eq_true this
      omega
    obtain ⟨s0, hs0⟩ : ∃ s, stR 0 n0 bs = s := ⟨_, rfl⟩
    have hs1 : s0.length = n0 := by rw [← hs0, stR_len]
    have hs2 : ∀ x ∈ s0, x = 0 ∨ x = 1 := by rw [← hs0]; exact stR_good _ _ _
    have hs3 : ∀ i, i < n0 → s0.getD i 0 = if bitB bs i = true then 1 else 0 := by
      intro i hi
      rw [← hs0]
      unfold stR
      rw [List.getD_eq_getElem?_getD, List.getElem?_map, List.getElem?_range hi]
      rfl
    have hG : good f0 s0 := ⟨b1, by omega, by omega, hs2⟩
    have hbit : ∀ i, i < 8 * bs.length → bitB bs i = decide (i < s0.length ∧ ((s0.getD i 0).toNat : Int) ∈ [(1 : Int), 2]) := by
      intro i hi
      rw [hs1]
      cases hb : bitB bs i with
      | false =>
        symm
        apply decide_eq_false
        rintro ⟨h1, h2⟩
        rw [hs3 i h1, hb] at h2
        revert h2
        decide
      | true =>
        have hi0 := hbs i hi hb
        symm
        apply decide_eq_true
        refine ⟨hi0, ?_⟩
        rw [hs3 i hi0, hb]
        decide
    have hu := used_in f0 bs s0 (8 * bs.length) (by omega) hbit
    rw [hu, ← hs1, ld_in f0 s0 [1, 2] _ (Nat.le_refl _)] at h2
    have hU : ldU s0 [1, 2] s0.length = s0 := by
      have := good_map hG
      unfold ldU
      rw [List.take_length, Nat.sub_self]
      simpa using this
    simp only [hU] at h2
    subst h1; subst h2
    refine ⟨hG, ?_⟩
    have hB : bitsL f0 s0.length (inL f0 s0 [1, 2] s0.length) = bs := by
      refine (bits_ext _ _ (by rw [bitsL_len]; omega) fun i hi => ?_)
      rw [bitsL_len] at hi
      rw [bits_in f0 s0 [1, 2] _ (Nat.le_refl _), hbit i (by omega)]
    refine hl.trans ?_
    have hq8 : (n0 + 7) / 8 = q := by omega
    unfold encB
    rw [hB, hs1, hq8]
    simp
/-- Both accept the same encodings and read the same map. -/
theorem dec_same (l : List UInt8) : decR l = dR l := by
  cases h : decR l with
  | some p =>
    obtain ⟨f, st⟩ := p
    obtain ⟨hg, rfl⟩ := decR_some h
    exact (dR_good hg).symm
  | none =>
    cases h' : dR l with
    | none => rfl
    | some p =>
      obtain ⟨f, st⟩ := p
      obtain ⟨hg, rfl⟩ := dR_some h'
      rw [dec_good hg] at h
      cases h
end Go.Proofs.Ytbeemkamjachpaa
