/- Plain arithmetic of the codec's numbers: groups of seven bits, nothing of the program. -/
namespace Go.Proofs.Ytbeemkamjachpaa
/-- The natural number that groups of seven bits stand for, the least group first. -/
def val : List UInt8 → Nat
  | [] => 0
  | c :: r => c.toNat % 128 + 128 * val r
/-- The same, as a 64-bit word. -/
def vm (l : List UInt8) : Nat := val l % 18446744073709551616
/-- How many of the first bytes are at least 128. -/
def gE (l : List UInt8) : Nat := (l.takeWhile fun c => decide (128 ≤ c.toNat)).length
/-- What both readers of groups return: number, length, error. -/
def grp (l : List UInt8) (most : Nat) : Nat × Nat × Nat :=
  if most ≤ gE l then (0, 0, 3) else if gE l = l.length then (0, 0, 28) else if 0 < gE l ∧ l.getD (gE l) 0 = 0 then (0, 0, 3) else (vm (l.take (gE l + 1)), gE l + 1, 0)

theorem val_append (a b : List UInt8) : val (a ++ b) = val a + 128 ^ a.length * val b := by
  induction a with
  | nil => simp [val]
  | cons c r ih => simp [val, ih, Nat.pow_succ, Nat.mul_add, Nat.mul_assoc, Nat.mul_comm]; omega
theorem val_lt (a : List UInt8) : val a < 128 ^ a.length := by
  induction a with
  | nil => simp [val]
  | cons c r ih => simp [val, Nat.pow_succ]; omega
theorem take_succ_getD (l : List UInt8) (k : Nat) (h : k < l.length) : l.take (k + 1) = l.take k ++ [l.getD k 0] := by
  rw [List.take_succ_eq_append_getElem h]; simp [List.getD, h]
theorem val_take_succ (l : List UInt8) (k : Nat) (h : k < l.length) : val (l.take (k + 1)) = val (l.take k) + 128 ^ k * ((l.getD k 0).toNat % 128) := by
  rw [take_succ_getD l k h, val_append]
  have : (l.take k).length = k := by simp; omega
  rw [this]; simp [val]
theorem gE_le (l : List UInt8) : gE l ≤ l.length := by unfold gE; exact (List.takeWhile_sublist _).length_le
/-- The first byte below 128 settles gE. -/
theorem gE_eq (l : List UInt8) (k : Nat) (h : k < l.length) (hall : ∀ j, j < k → 128 ≤ (l.getD j 0).toNat) (hk : (l.getD k 0).toNat < 128) : gE l = k := by
  induction l generalizing k with
  | nil => simp at h
  | cons c r ih =>
    match k with
    | 0 =>
      simp [List.getD] at hk
      unfold gE
      rw [List.takeWhile_cons_of_neg (by simpa using hk)]
      rfl
    | k + 1 =>
      have h0 := hall 0 (by omega)
      simp [List.getD] at h0
      have := ih k (by simpa using h) (fun j hj => by have := hall (j + 1) (by omega); simpa [List.getD] using this) (by simpa [List.getD] using hk)
      unfold gE at this ⊢
      rw [List.takeWhile_cons_of_pos (by simpa using h0)]
      simp [this]
theorem gE_ge (l : List UInt8) (k : Nat) (h : k ≤ l.length) (hall : ∀ j, j < k → 128 ≤ (l.getD j 0).toNat) : k ≤ gE l := by
  induction l generalizing k with
  | nil => simp at h; omega
  | cons c r ih =>
    match k with
    | 0 => omega
    | k + 1 =>
      have h0 := hall 0 (by omega)
      simp [List.getD] at h0
      have := ih k (by simpa using h) (fun j hj => by have := hall (j + 1) (by omega); simpa [List.getD] using this)
      unfold gE at this ⊢
      rw [List.takeWhile_cons_of_pos (by simpa using h0)]
      simp; omega
theorem gE_ge_at (l : List UInt8) (j : Nat) (h : j < gE l) : 128 ≤ (l.getD j 0).toNat := by
  induction l generalizing j with
  | nil => simp [gE] at h
  | cons c r ih =>
    unfold gE at h
    rw [List.takeWhile_cons] at h
    split at h
    · rename_i hc
      match j with
      | 0 => simpa [List.getD] using hc
      | j + 1 => have := ih j (by unfold gE; simp at h; exact h); simpa [List.getD] using this
    · simp at h
/-- 'u |= uint64(c & 127) << (7 * i)' adds the next group. -/
theorem or_group (u c i : Nat) (hu : u < 128 ^ i) : (u ||| ((c % 128) * 128 ^ i)) = u + 128 ^ i * (c % 128) := by
  have e : (128 : Nat) ^ i = 2 ^ (7 * i) := by rw [Nat.pow_mul]
  rw [e] at hu ⊢
  rw [Nat.or_comm, ← Nat.shiftLeft_eq, ← Nat.shiftLeft_add_eq_or_of_lt hu, Nat.shiftLeft_eq]
  rw [Nat.mul_comm]; omega
theorem or_group_mod (u c i : Nat) (hu : u < 128 ^ i) (h64 : u < 18446744073709551616) : (u ||| ((c % 128) * 128 ^ i % 18446744073709551616)) = (u + 128 ^ i * (c % 128)) % 18446744073709551616 := by
  rw [← or_group u c i hu]
  have h : (u ||| (c % 128) * 128 ^ i) % 2 ^ 64 = (u % 2 ^ 64 ||| (c % 128) * 128 ^ i % 2 ^ 64) := Nat.or_mod_two_pow ..
  have e : (18446744073709551616 : Nat) = 2 ^ 64 := by decide
  rw [e] at h64 ⊢
  rw [h, Nat.mod_eq_of_lt h64]
/-- What the reference's reader of groups returns: it refuses a tenth group above 1, too. -/
def grpR (l : List UInt8) (most : Nat) : Nat × Nat × Nat :=
  if most ≤ gE l then (0, 0, 3) else if gE l = l.length then (0, 0, 28) else if 0 < gE l ∧ l.getD (gE l) 0 = 0 then (0, 0, 3) else if gE l = 9 ∧ 1 < (l.getD (gE l) 0).toNat then (0, 0, 3) else (vm (l.take (gE l + 1)), gE l + 1, 0)
theorem getD_take (l : List UInt8) (k j : Nat) (h : j < k) : (l.take k).getD j 0 = l.getD j 0 := by
  simp [List.getD_eq_getElem?_getD, h]
theorem drop_cons_getD (l : List UInt8) (k : Nat) (h : k < l.length) : l.drop k = l.getD k 0 :: l.drop (k + 1) := by
  rw [List.drop_eq_getElem_cons h]; simp [List.getD, h]
/-- 'n = 128*n + uint64(b[i]%128)', from the last group to the first. -/
theorem vm_step (t : List UInt8) (i : Nat) (h : i < t.length) : (128 * vm (t.drop (i + 1)) + (t.getD i 0).toNat % 128) % 18446744073709551616 = vm (t.drop i) := by
  rw [drop_cons_getD t i h]
  unfold vm
  simp only [val]
  omega
/-- The encoding of a natural number, with fuel. -/
def natF : Nat → Nat → List UInt8
  | 0, u => [UInt8.ofNat u]
  | f + 1, u => if u < 128 then [UInt8.ofNat u] else UInt8.ofNat (u % 128 + 128) :: natF f (u / 128)
/-- The encoding of a natural number below 2^64: at most ten groups. -/
def nat (n : Nat) : List UInt8 := natF 9 n
theorem natF_small (f u : Nat) (h : u < 128) : natF f u = [UInt8.ofNat u] := by cases f <;> simp [natF, h]
theorem natF_big (f u : Nat) (h : 128 ≤ u) : natF (f + 1) u = UInt8.ofNat (u % 128 + 128) :: natF f (u / 128) := by rw [natF, if_neg (by omega)]
theorem natF_len (f u : Nat) : 0 < (natF f u).length ∧ (natF f u).length ≤ f + 1 := by
  induction f generalizing u with
  | zero => simp [natF]
  | succ f ih => simp only [natF]; split <;> simp; have := ih (u / 128); omega
theorem nat_len (n : Nat) : 0 < (nat n).length ∧ (nat n).length ≤ 10 := natF_len 9 n
/-- Groups that end below 128 are the encoding of their number. -/
theorem natF_val : ∀ (t : List UInt8) (f : Nat), t.length ≤ f + 1 → (∀ j, j + 1 < t.length → 128 ≤ (t.getD j 0).toNat) → (∀ j, j + 1 = t.length → (t.getD j 0).toNat < 128 ∧ (0 < j → t.getD j 0 ≠ 0)) → t ≠ [] → natF f (val t) = t ∧ (1 < t.length → 128 ≤ val t) ∧ (t.length = 1 → val t < 128) ∧ (t ≠ [0] → 0 < val t)
  | [], _, _, _, _, h => absurd rfl h
  | [c], f, _, _, h2, _ => by
    have h := (h2 0 rfl).1
    simp at h
    have e : val [c] = c.toNat := by simp [val]; omega
    rw [e, natF_small f _ h]
    refine ⟨by simp, by simp, fun _ => h, fun hc => ?_⟩
    rcases Nat.eq_zero_or_pos c.toNat with h0 | h0
    · exact absurd (by rw [show c = 0 from UInt8.toNat_inj.1 h0]) hc
    · exact h0
  | c :: d :: r, f, hl, h1, h2, _ => by
    match f with
    | 0 => simp at hl
    | f + 1 =>
      obtain ⟨i1, i2, i3, i4⟩ := natF_val (d :: r) f (by simpa using hl) (fun j hj => by have := h1 (j + 1) (by simpa using hj); simpa using this) (fun j hj => by
        have := h2 (j + 1) (by simpa using hj)
        refine ⟨by simpa using this.1, fun _ => by simpa using this.2 (by omega)⟩) (by simp)
      have hc := h1 0 (by simp)
      simp at hc
      have hpos : 0 < val (d :: r) := i4 fun he => by
        have := (h2 1 (by rw [he]; rfl)).2 (by omega)
        simp at this; injection he with he _; exact this he
      have e : val (c :: d :: r) = c.toNat % 128 + 128 * val (d :: r) := rfl
      have hlt := c.toNat_lt
      refine ⟨?_, fun _ => by rw [e]; omega, by simp, fun _ => by rw [e]; omega⟩
      rw [e, natF_big _ _ (by omega), show (c.toNat % 128 + 128 * val (d :: r)) / 128 = val (d :: r) by omega, i1, show (c.toNat % 128 + 128 * val (d :: r)) % 128 + 128 = c.toNat by omega]
      simp
/-- What Parse accepts is the encoding of the number. -/
theorem grp_enc (l : List UInt8) (h : (grp l 9).2.2 = 0) : nat (grp l 9).1 = l.take (grp l 9).2.1 ∧ (grp l 9).2.1 ≤ l.length := by
  unfold grp at h ⊢
  split at h
  · cases h
  · rename_i h1
    rw [if_neg h1]
    split at h
    · cases h
    · rename_i h2
      rw [if_neg h2]
      split at h
      · cases h
      · rename_i h3
        rw [if_neg h3]
        have hle := gE_le l
        have hlt : gE l < l.length := by omega
        have hlen : (l.take (gE l + 1)).length = gE l + 1 := by simp; omega
        have hg : ∀ j, j < gE l + 1 → (l.take (gE l + 1)).getD j 0 = l.getD j 0 := fun j hj => getD_take l _ _ hj
        have hlast : (l.getD (gE l) 0).toNat < 128 := by
          rcases Nat.lt_or_ge (l.getD (gE l) 0).toNat 128 with h | h
          · exact h
          · have := gE_ge l (gE l + 1) (by omega) (fun j hj => by
              rcases Nat.lt_or_ge j (gE l) with h' | h'
              · exact gE_ge_at l j h'
              · rw [show j = gE l by omega]; exact h)
            omega
        have hv := natF_val (l.take (gE l + 1)) 9 (by omega) (fun j hj => by rw [hg j (by omega)]; exact gE_ge_at l j (by omega)) (fun j hj => by
          rw [hg j (by omega), show j = gE l by omega]
          exact ⟨hlast, fun hp h0 => h3 ⟨hp, h0⟩⟩) (by intro he; rw [he] at hlen; simp at hlen)
        have hb : val (l.take (gE l + 1)) < 18446744073709551616 := by
          have h0 := val_lt (l.take (gE l + 1))
          have h9 : (128 : Nat) ^ (l.take (gE l + 1)).length ≤ 128 ^ 9 := Nat.pow_le_pow_right (by decide) (by omega)
          exact Nat.lt_of_lt_of_le h0 (Nat.le_trans h9 (by decide))
        refine ⟨?_, by show gE l + 1 ≤ _; omega⟩
        show nat (vm _) = _
        unfold vm nat
        rw [Nat.mod_eq_of_lt hb]
        exact hv.1
theorem grp_zero (l : List UInt8) (m : Nat) (h : (grp l m).2.2 ≠ 0) : (grp l m).1 = 0 ∧ (grp l m).2.1 = 0 := by
  unfold grp at h ⊢
  split
  · exact ⟨rfl, rfl⟩
  · rename_i h1
    rw [if_neg h1] at h
    split
    · exact ⟨rfl, rfl⟩
    · rename_i h2
      rw [if_neg h2] at h
      split
      · exact ⟨rfl, rfl⟩
      · rename_i h3
        rw [if_neg h3] at h
        exact absurd rfl h
theorem natF_groups (f u : Nat) (hu : u < 128 ^ (f + 1)) (r : List UInt8) : gE (natF f u ++ r) + 1 = (natF f u).length ∧ val (natF f u) = u ∧ (0 < gE (natF f u ++ r) → (natF f u ++ r).getD (gE (natF f u ++ r)) 0 ≠ 0) := by
  induction f generalizing u with
  | zero =>
    have h : u < 128 := by simpa using hu
    have hv : (UInt8.ofNat u).toNat = u := by simp; omega
    have e : gE (natF 0 u ++ r) = 0 := by
      simp only [natF, List.cons_append, List.nil_append, gE]
      rw [List.takeWhile_cons_of_neg (by rw [hv]; simp; omega)]; rfl
    rw [e]
    exact ⟨rfl, by simp only [natF, val]; rw [hv]; omega, fun h => absurd h (by omega)⟩
  | succ f ih =>
    by_cases h : u < 128
    · have hv : (UInt8.ofNat u).toNat = u := by simp; omega
      have e : gE (natF (f + 1) u ++ r) = 0 := by
        rw [natF_small _ _ h]
        simp only [List.cons_append, List.nil_append, gE]
        rw [List.takeWhile_cons_of_neg (by rw [hv]; simp; omega)]; rfl
      rw [e, natF_small _ _ h]
      exact ⟨rfl, by simp only [val]; rw [hv]; omega, fun h => absurd h (by omega)⟩
    · have hv : (UInt8.ofNat (u % 128 + 128)).toNat = u % 128 + 128 := by rw [UInt8.toNat_ofNat']; omega
      have hd : u / 128 < 128 ^ (f + 1) := by rw [Nat.pow_succ] at hu; omega
      obtain ⟨i1, i2, i3⟩ := ih (u / 128) hd
      rw [natF_big _ _ (by omega)]
      have e : gE (UInt8.ofNat (u % 128 + 128) :: natF f (u / 128) ++ r) = gE (natF f (u / 128) ++ r) + 1 := by
        simp only [List.cons_append, gE]
        rw [List.takeWhile_cons_of_pos (by rw [hv]; simp)]; rfl
      rw [e]
      refine ⟨by simp [i1], by simp only [val]; rw [hv, i2]; omega, fun _ => ?_⟩
      simp only [List.cons_append, List.getD_cons_succ]
      by_cases h0 : 0 < gE (natF f (u / 128) ++ r)
      · exact i3 h0
      · have hg : gE (natF f (u / 128) ++ r) = 0 := by omega
        have hl : (natF f (u / 128)).length = 1 := by omega
        rw [hg]
        have hs : natF f (u / 128) = [UInt8.ofNat (u / 128)] := by
          cases f with
          | zero => rfl
          | succ f =>
            by_cases h1 : u / 128 < 128
            · exact natF_small _ _ h1
            · rw [natF_big _ _ (by omega)] at hl
              have := (natF_len f (u / 128 / 128)).1
              simp at hl
              rw [hl] at this; simp at this
        rw [hs]
        simp only [List.cons_append, List.getD_cons_zero]
        have h2 : u / 128 < 128 := by
          have := i2
          rw [hs] at this
          simp only [val] at this
          omega
        intro h0
        have h3 : (UInt8.ofNat (u / 128)).toNat = u / 128 := by simp; omega
        rw [h0] at h3
        simp at h3
        omega
/-- The encoding of a number, whatever stands behind it, is read as that number. -/
theorem grp_nat (n : Nat) (r : List UInt8) (h : n < 9223372036854775808) : grp (nat n ++ r) 9 = (n, (nat n).length, 0) := by
  have hu : n < 128 ^ (8 + 1) := Nat.lt_of_lt_of_le h (by decide +kernel)
  have hf : nat n = natF 8 n := by
    have key : ∀ f u, u < 128 ^ (f + 1) → natF (f + 1) u = natF f u := by
      intro f
      induction f with
      | zero => intro u hu; have : u < 128 := by simpa using hu
                rw [natF_small _ _ this, natF_small _ _ this]
      | succ f ih =>
        intro u hu
        by_cases h : u < 128
        · rw [natF_small _ _ h, natF_small _ _ h]
        · rw [natF_big (f + 1) u (by omega), natF_big f u (by omega), ih (u / 128) (by rw [Nat.pow_succ] at hu; omega)]
    exact key 8 n hu
  obtain ⟨h1, h2, h3⟩ := natF_groups 8 n hu r
  have hl := natF_len 8 n
  rw [hf]
  unfold grp
  rw [if_neg (by omega), if_neg (by have := List.length_append (as := natF 8 n) (bs := r); omega), if_neg (fun hx => h3 hx.1 hx.2), h1]
  have ht : (natF 8 n ++ r).take (natF 8 n).length = natF 8 n := List.take_left
  rw [ht]
  unfold vm
  rw [h2, Nat.mod_eq_of_lt (by omega)]
theorem or128 (x : Nat) (h : x < 256) : x ||| 128 = x % 128 + 128 := by
  have : ∀ y : Fin 256, y.val ||| 128 = y.val % 128 + 128 := by decide +kernel
  exact this ⟨x, h⟩
end Go.Proofs.Ytbeemkamjachpaa
