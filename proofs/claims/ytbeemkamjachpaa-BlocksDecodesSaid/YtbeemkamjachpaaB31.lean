/- Plain laws of the bits of an encoding, and what Decode makes of an encoding. -/
import Derived.Test.YtbeemkamjachpaaB30
namespace Go.Proofs.Ytbeemkamjachpaa
open Go.RowKit
set_option maxRecDepth 100000
theorem rep_get0 (n k : Nat) : (List.replicate n (0 : UInt8)).getD k 0 = 0 := by
  rw [List.getD_eq_getElem?_getD, List.getElem?_replicate]
  split <;> rfl
theorem add_or_nat : ∀ a : Fin 256, ∀ r : Fin 8, a.val.testBit r.val = false → (a.val + 2 ^ r.val) % 256 = a.val ||| 2 ^ r.val := by decide +kernel
theorem or_toNat (x : UInt8) (r : Nat) (hr : r < 8) : (x ||| UInt8.ofNat (2 ^ r)).toNat = x.toNat ||| 2 ^ r := by
  have hp : (2 : Nat) ^ r < 256 := Nat.lt_of_le_of_lt (Nat.pow_le_pow_right (by decide) (by omega : r ≤ 7)) (by decide)
  rw [UInt8.toNat_or, UInt8.toNat_ofNat', Nat.mod_eq_of_lt hp]
theorem add_or8 (x : UInt8) (r : Nat) (hr : r < 8) (h : x.toNat.testBit r = false) : ((x.toNat : Int) + 2 ^ r) % 256 = ((x ||| UInt8.ofNat (2 ^ r)).toNat : Int) := by
  have := add_or_nat ⟨x.toNat, x.toNat_lt⟩ ⟨r, hr⟩ h
  rw [or_toNat x r hr, ← this]
  push_cast
  rfl
theorem setBit_free (bs : List UInt8) (k j : Nat) (hj : k < j) (h : (bs.getD (j / 8) 0).toNat.testBit (j % 8) = false) : ((setBit bs k).getD (j / 8) 0).toNat.testBit (j % 8) = false := by
  unfold setBit
  by_cases he : k / 8 = j / 8
  · rw [← he] at h ⊢
    by_cases hlt : k / 8 < bs.length
    · rw [List.getD_eq_getElem?_getD, List.getElem?_set_self hlt, Option.getD_some, or_toNat _ _ (by omega), Nat.testBit_or, h, Nat.testBit_two_pow]
      simp
      omega
    · rw [List.getD_eq_getElem?_getD, List.getElem?_eq_none (by rw [List.length_set]; omega)]
      simp
  · rw [List.getD_eq_getElem?_getD, List.getElem?_set_ne he, ← List.getD_eq_getElem?_getD]
    exact h
theorem bits_free (f n : Nat) (l : List UInt8) (t : List Int) : ∀ k j, k ≤ j → ((bitsL f n (inL f l t k)).getD (j / 8) 0).toNat.testBit (j % 8) = false := by
  intro k
  induction k with
  | zero =>
    intro j _
    show ((List.replicate ((n + 7) / 8) (0 : UInt8)).getD (j / 8) 0).toNat.testBit (j % 8) = false
    rw [rep_get0]
    simp
  | succ k ih =>
    intro j hj
    rw [inL_succ]
    split
    · rw [bitsL_snoc]
      exact setBit_free _ k j (by omega) (ih j (by omega))
    · rw [List.append_nil]
      exact ih j (by omega)
theorem bit_nat : ∀ a : Fin 256, ∀ r : Fin 8, (bits .and .u8 ((a.val : Int) / 2 ^ r.val) 1 == 1) = a.val.testBit r.val := by decide +kernel
theorem bitB_test (bs : List UInt8) (i : Nat) : bitB bs i = (bs.getD (i / 8) 0).toNat.testBit (i % 8) := by
  unfold bitB
  exact bit_nat ⟨_, (bs.getD (i / 8) 0).toNat_lt⟩ ⟨i % 8, Nat.mod_lt _ (by decide)⟩
theorem setBit_test (bs : List UInt8) (k j : Nat) (hk : k / 8 < bs.length) : bitB (setBit bs k) j = (decide (k = j) || bitB bs j) := by
  rw [bitB_test, bitB_test]
  unfold setBit
  by_cases he : k / 8 = j / 8
  · rw [← he, List.getD_eq_getElem?_getD, List.getElem?_set_self hk, Option.getD_some, or_toNat _ _ (by omega), Nat.testBit_or, Nat.testBit_two_pow, Bool.or_comm]
    congr 1
    apply decide_eq_decide.2
    omega
  · rw [List.getD_eq_getElem?_getD, List.getElem?_set_ne he, ← List.getD_eq_getElem?_getD, decide_eq_false (by intro h; subst h; exact he rfl), Bool.false_or]
theorem bits_in (f : Nat) (l : List UInt8) (t : List Int) : ∀ k, k ≤ l.length → ∀ j, bitB (bitsL f l.length (inL f l t k)) j = decide (j < k ∧ ((l.getD j 0).toNat : Int) ∈ t) := by
  intro k
  induction k with
  | zero =>
    intro _ j
    rw [bitB_test]
    show ((List.replicate ((l.length + 7) / 8) (0 : UInt8)).getD (j / 8) 0).toNat.testBit (j % 8) = _
    rw [rep_get0]
    simp
  | succ k ih =>
    intro hk j
    rw [inL_succ]
    by_cases hm : ((l.getD k 0).toNat : Int) ∈ t
    · rw [if_pos hm, bitsL_snoc, setBit_test _ _ _ (by rw [bitsL_len]; omega), ih (by omega)]
      by_cases hj : k = j
      · subst hj
        rw [decide_eq_true rfl, Bool.true_or, decide_eq_true ⟨by omega, hm⟩]
      · rw [decide_eq_false hj, Bool.false_or]
        exact decide_eq_decide.2 ⟨fun h => ⟨by omega, h.2⟩, fun h => ⟨by omega, h.2⟩⟩
    · rw [if_neg hm, List.append_nil, ih (by omega)]
      refine decide_eq_decide.2 ⟨fun h => ⟨by omega, h.2⟩, fun h => ⟨?_, h.2⟩⟩
      rcases Nat.lt_or_ge j k with h' | h'
      · exact h'
      · obtain rfl : j = k := by omega
        exact absurd h.2 hm
theorem filter_range (p : Nat → Bool) (n m : Nat) (h : n ≤ m) (hp : ∀ i, n ≤ i → p i = false) : (List.range m).filter p = (List.range n).filter p := by
  induction m with
  | zero => obtain rfl : n = 0 := by omega
            rfl
  | succ m ih =>
    by_cases hm : n = m + 1
    · rw [hm]
    · rw [List.range_succ, List.filter_append, ih (by omega), List.filter_cons, hp m (by omega)]
      simp
/-- The blocks that Decode finds in the bits of an encoding. -/
theorem used_bits (f : Nat) (l : List UInt8) (t : List Int) (m : Nat) (h : l.length ≤ m) : usedL f (bitsL f l.length (inL f l t l.length)) m = inL f l t l.length := by
  unfold usedL
  rw [filter_range _ l.length m h (fun i hi => by rw [bits_in f l t _ (Nat.le_refl _)]; exact decide_eq_false (by omega))]
  unfold inL
  congr 1
  apply List.filter_congr
  intro j hj
  have := bits_in f l t l.length (Nat.le_refl _) j
  unfold inL at this
  rw [this]
  exact decide_eq_decide.2 ⟨fun h => h.2, fun h => ⟨List.mem_range.1 hj, h⟩⟩
/-- The states after the first k blocks were loaded. -/
def ldU (l : List UInt8) (t : List Int) (k : Nat) : List UInt8 := (l.take k).map (fun x => if (x.toNat : Int) ∈ t then 1 else 0) ++ List.replicate (l.length - k) 0
theorem ldL_cons (f : Nat) (l : List UInt8) (x : Int) (r : List Int) : ldL f l (x :: r) = if inR f l.length x = false then (2, l) else if l.getD (x - (f : Int)).toNat 0 ≠ 0 then (7, l) else ldL f (l.set (x - (f : Int)).toNat 1) r := rfl
theorem ldL_append (f : Nat) : ∀ (a b : List Int) (l : List UInt8), (ldL f l a).1 = 0 → ldL f l (a ++ b) = ldL f (ldL f l a).2 b := by
  intro a
  induction a with
  | nil => intro b l _; rfl
  | cons x r ih =>
    intro b l h
    show ldL f l (x :: (r ++ b)) = _
    rw [ldL_cons] at h ⊢
    rw [ldL_cons]
    by_cases h1 : inR f l.length x = false
    · rw [if_pos h1] at h; simp at h
    · rw [if_neg h1] at h ⊢
      by_cases h2 : l.getD (x - (f : Int)).toNat 0 ≠ 0
      · rw [if_pos h2] at h; simp at h
      · rw [if_neg h2] at h ⊢
        rw [if_neg h1, if_neg h2]
        exact ih b _ h
theorem ldU_succ (l : List UInt8) (t : List Int) (k : Nat) (hk : k < l.length) : ldU l t (k + 1) = (ldU l t k).set k (if ((l.getD k 0).toNat : Int) ∈ t then 1 else 0) := by
  unfold ldU
  have e : (List.map (fun x : UInt8 => if (x.toNat : Int) ∈ t then (1 : UInt8) else 0) (l.take k)).length = k := by rw [List.length_map, List.length_take]; omega
  rw [take_succ_getD l k hk, List.map_append, List.set_append_right _ _ (by omega), e, Nat.sub_self, show l.length - k = (l.length - (k + 1)) + 1 by omega, List.replicate_succ, List.set_cons_zero, List.append_assoc]
  rfl
theorem ldU_get (l : List UInt8) (t : List Int) (k : Nat) (hk : k < l.length) : (ldU l t k).getD k 0 = 0 := by
  unfold ldU
  have e : (List.map (fun x : UInt8 => if (x.toNat : Int) ∈ t then (1 : UInt8) else 0) (l.take k)).length = k := by rw [List.length_map, List.length_take]; omega
  rw [List.getD_eq_getElem?_getD, List.getElem?_append_right (by omega), e, Nat.sub_self, show l.length - k = (l.length - (k + 1)) + 1 by omega, List.replicate_succ]
  rfl
theorem ldU_len (l : List UInt8) (t : List Int) (k : Nat) (hk : k ≤ l.length) : (ldU l t k).length = l.length := by
  unfold ldU
  rw [List.length_append, List.length_map, List.length_take, List.length_replicate]
  omega
theorem ld_in (f : Nat) (l : List UInt8) (t : List Int) : ∀ k, k ≤ l.length → ldL f (List.replicate l.length 0) (inL f l t k) = (0, ldU l t k) := by
  intro k
  induction k with
  | zero => intro _; rfl
  | succ k ih =>
    intro hk
    have h0 := ih (by omega)
    rw [inL_succ, ldL_append f _ _ _ (by rw [h0]), h0, ldU_succ l t k (by omega)]
    by_cases hm : ((l.getD k 0).toNat : Int) ∈ t
    · rw [if_pos hm, if_pos hm]
      show ldL f (ldU l t k) [(f : Int) + (k : Nat)] = _
      have hl := ldU_len l t k (by omega)
      rw [ldL_cons, hl, inR_in (by omega), if_neg (by decide), show ((f : Int) + (k : Nat) - (f : Int)).toNat = k by omega, ldU_get l t k (by omega), if_neg (by simp)]
      rfl
    · rw [if_neg hm, if_neg hm]
      show (0, ldU l t k) = _
      congr 1
      have := ldU_get l t k (by omega)
      refine List.ext_getElem? fun i => ?_
      by_cases hi : k = i
      · subst hi
        rw [List.getElem?_set_self (by rw [ldU_len l t k (by omega)]; omega)]
        rw [List.getD_eq_getElem?_getD, List.getElem?_eq_getElem (by rw [ldU_len l t k (by omega)]; omega), Option.getD_some] at this
        rw [List.getElem?_eq_getElem (by rw [ldU_len l t k (by omega)]; omega), this]
      · rw [List.getElem?_set_ne hi]
theorem rText_nat (s r : List UInt8) (m : Int) (hm : m = (s.length : Int)) (hs : s.length ≤ 16777216) : rText m (nat s.length ++ s ++ r) = (s, (nat s.length).length + s.length, 0) := by
  unfold rText
  rw [List.append_assoc, grp_nat s.length (s ++ r) (by omega)]
  simp only [ne_eq, not_true_eq_false, if_false]
  rw [if_neg (by omega), if_neg (by simp; omega), List.drop_left, List.take_left]
theorem rNum_nat (n m : Nat) (r : List UInt8) (h : n ≤ m) (hm : m < 9223372036854775808) : rNum (m : Int) (nat n ++ r) = (n, (nat n).length, 0) := by
  unfold rNum
  rw [grp_nat n r (by omega), if_neg (by simp only; omega)]
/-- An encoding is read as what was encoded. -/
theorem dec_enc (f : Nat) (l : List UInt8) (hf : f ≤ 1073741824) (h1 : 1 ≤ l.length) (hn : l.length ≤ 65536) :
    decR (encB f l) = some (f, l.map fun x => if (x.toNat : Int) ∈ [(1 : Int), 2] then 1 else 0) := by
  have hbl := bitsL_len f l.length (inL f l [1, 2] l.length)
  have hub := used_bits f l [1, 2] (8 * ((l.length + 7) / 8)) (by omega)
  have hE : encB f l = nat f ++ (nat l.length ++ (nat ((l.length + 7) / 8) ++ bitsL f l.length (inL f l [1, 2] l.length))) := by unfold encB; simp
  rw [hE]
  generalize bitsL f l.length (inL f l [1, 2] l.length) = bs at hbl hub ⊢
  rw [← hbl]
  have d1 : dec1 (nat f ++ (nat l.length ++ (nat bs.length ++ bs))) = (f, (nat f).length, 0) := by
    unfold dec1
    rw [List.drop_zero, show (1073741824 : Int) = ((1073741824 : Nat) : Int) from rfl, rNum_nat _ _ _ hf (by omega), stepR_ok, Nat.zero_add]
  have d2 : dec2 (nat f ++ (nat l.length ++ (nat bs.length ++ bs))) = (l.length, (nat f).length + (nat l.length).length, 0) := by
    unfold dec2
    rw [d1]
    simp only
    rw [List.drop_left, show (65536 : Int) = ((65536 : Nat) : Int) from rfl, rNum_nat _ _ _ hn (by omega), stepR_ok]
  have d3 : dec3 (nat f ++ (nat l.length ++ (nat bs.length ++ bs))) = (bs, (nat f).length + (nat l.length).length + ((nat bs.length).length + bs.length), 0) := by
    unfold dec3
    rw [d2]
    simp only
    have ht := rText_nat bs [] (((l.length + 7) / 8 : Nat) : Int) (by rw [hbl]) (by omega)
    rw [List.append_nil] at ht
    rw [← List.drop_drop, List.drop_left, List.drop_left, ht, stepR_ok]
  unfold decR
  rw [d1, d2, d3]
  simp only
  have hc : closes ((nat f ++ (nat l.length ++ (nat bs.length ++ bs))).length - ((nat f).length + (nat l.length).length + ((nat bs.length).length + bs.length))) 0 = 0 := by
    unfold closes
    rw [if_neg]
    simp
    omega
  rw [hc]
  unfold decV
  rw [hbl, hub, ld_in f l [1, 2] _ (Nat.le_refl _)]
  simp only
  rw [if_neg (by rintro (h | h | h | h); exact h rfl; exact h rfl; omega; exact h rfl)]
  unfold ldU
  rw [List.take_length, Nat.sub_self]
  simp
end Go.Proofs.Ytbeemkamjachpaa
