/- Plain laws of the codec: one encoding for every value; bytes that are missing. -/
import Derived.Test.YtogagcdlkhinjaaRound
namespace Go.Proofs.Ytogagcdlkhinjaa
open Go.RowKit
theorem grp_enc10 (l : List UInt8) (h : (grp l 10).2.2 = 0) (ht : ¬ ((grp l 10).2.1 = 10 ∧ 1 < (l.getD 9 0).toNat)) : nat (grp l 10).1 = l.take (grp l 10).2.1 ∧ (grp l 10).2.1 ≤ l.length ∧ (grp l 10).1 < 18446744073709551616 := by
  unfold grp at h ht ⊢
  split at h
  · cases h
  · rename_i h1
    rw [if_neg h1] at ht ⊢
    split at h
    · cases h
    · rename_i h2
      rw [if_neg h2] at ht ⊢
      split at h
      · cases h
      · rename_i h3
        rw [if_neg h3] at ht ⊢
        have hle := gE_le l
        have hlt : gE l < l.length := by omega
        have hlen : (l.take (gE l + 1)).length = gE l + 1 := by simp; omega
        have hg : ∀ j, j < gE l + 1 → (l.take (gE l + 1)).getD j 0 = l.getD j 0 := fun j hj => getD_take l _ _ hj
        have hlast : (l.getD (gE l) 0).toNat < 128 := by
          rcases Nat.lt_or_ge (l.getD (gE l) 0).toNat 128 with h | h
          · exact h
          · have := gE_ge l (gE l + 1) (by omega) (fun j hj => by
              rcases Nat.lt_or_ge j (gE l) with h' | h'
              · exact gE_ge_at l j h'
              · rw [show j = gE l by omega]; exact h)
            omega
        have hv := natF_val (l.take (gE l + 1)) 9 (by omega) (fun j hj => by rw [hg j (by omega)]; exact gE_ge_at l j (by omega)) (fun j hj => by
          rw [hg j (by omega), show j = gE l by omega]
          exact ⟨hlast, fun hp h0 => h3 ⟨hp, h0⟩⟩) (by intro he; rw [he] at hlen; simp at hlen)
        have hb : val (l.take (gE l + 1)) < 18446744073709551616 := by
          by_cases h9 : gE l = 9
          · have h10 : (l.getD 9 0).toNat ≤ 1 := by
              rcases Nat.lt_or_ge 1 (l.getD 9 0).toNat with h | h
              · exact absurd ⟨by show gE l + 1 = 10; omega, h⟩ ht
              · exact h
            have e := val_take_succ l (gE l) (by omega)
            have h0 := val_lt (l.take (gE l))
            have hl9 : (l.take (gE l)).length = 9 := by simp; omega
            rw [hl9] at h0
            rw [e, h9]
            rw [h9] at h0
            have h128 : (128 : Nat) ^ 9 = 9223372036854775808 := by decide +kernel
            rw [h128] at h0 ⊢
            have : (l.getD 9 0).toNat % 128 = (l.getD 9 0).toNat := Nat.mod_eq_of_lt (by omega)
            rw [this]
            omega
          · have h0 := val_lt (l.take (gE l + 1))
            have h9 : (128 : Nat) ^ (l.take (gE l + 1)).length ≤ 128 ^ 9 := Nat.pow_le_pow_right (by decide) (by omega)
            exact Nat.lt_of_lt_of_le h0 (Nat.le_trans h9 (by decide))
        refine ⟨?_, by show gE l + 1 ≤ _; omega, Nat.mod_lt _ (by decide)⟩
        show nat (vm _) = _
        unfold vm nat
        rw [Nat.mod_eq_of_lt hb]
        exact hv.1
theorem sgn_unsg (u : Nat) : sgn (unsg u) = u := by
  unfold unsg sgn
  by_cases h : u % 2 = 1
  · rw [if_pos h, if_pos (by omega)]; omega
  · rw [if_neg h, if_neg (by omega)]; omega
theorem drop_split (b : List UInt8) (at_ k : Nat) : b.drop at_ = (b.drop at_).take k ++ b.drop (at_ + k) := by
  rw [← List.drop_drop, List.take_append_drop]
/-- What a read value is. -/
structure Got (x : V) : Prop where
  good : x.good
  ok : x.Ok
  len : x.s.length ≤ 1000
theorem rone_enc (b : List UInt8) (at_ : Nat) (v : V) (hb : b.length ≤ 1000) (hok : v.Ok) (h : (rone b (at_, 0) v).2.2 = 0) : Got (rone b (at_, 0) v).1 ∧ b.drop at_ = encV (rone b (at_, 0) v).1 ++ b.drop (rone b (at_, 0) v).2.1 := by
  have hk : v.kind.toNat % 4 < 4 := Nat.mod_lt _ (by decide)
  have hm1 := hok.m1; have hm2 := hok.m2
  unfold rone at h ⊢
  rcases (show v.kind.toNat % 4 = 0 ∨ v.kind.toNat % 4 = 1 ∨ v.kind.toNat % 4 = 2 ∨ v.kind.toNat % 4 = 3 by omega) with e | e | e | e
  · simp only [e] at h ⊢
    by_cases h0 : (rNum v.most (b.drop at_)).2.2 = 0
    · have hn : rNum v.most (b.drop at_) = grp (b.drop at_) 9 := by
        unfold rNum at h0 ⊢
        split at h0
        · cases h0
        · rename_i h1; rw [if_neg h1]
      rw [hn] at h0
      obtain ⟨i1, i2⟩ := grp_enc _ h0
      have i3 := grp_small (b.drop at_)
      have hr : rNum v.most (b.drop at_) = ((grp (b.drop at_) 9).1, (grp (b.drop at_) 9).2.1, 0) := by rw [hn, ← h0]
      rw [hr, stepR_ok]
      refine ⟨⟨fun _ => by simp, ⟨by simp only; omega, by simp only; omega, hm1, hm2, by simp⟩, by simp⟩, ?_⟩
      have hE : encV { kind := v.kind, n := ((grp (b.drop at_) 9).1 : Int), is := false, s := [], most := v.most } = nat (grp (b.drop at_) 9).1 := by unfold encV; simp only [e]; rfl
      rw [hE, i1]
      exact drop_split b at_ _
    · exfalso
      revert h
      unfold stepR
      rw [if_neg (by simp), if_pos h0]
      exact h0
  · simp only [e] at h ⊢
    by_cases h0 : (rSig (b.drop at_)).2.2 = 0
    · have hg : (grp (b.drop at_) 10).2.2 = 0 ∧ ¬ ((grp (b.drop at_) 10).2.1 = 10 ∧ 1 < ((b.drop at_).getD 9 0).toNat) ∧ rSig (b.drop at_) = (unsg (grp (b.drop at_) 10).1, (grp (b.drop at_) 10).2.1, 0) := by
        unfold rSig at h0 ⊢
        split at h0
        · rename_i h1; exact absurd h0 h1
        · rename_i h1
          split at h0
          · cases h0
          · rename_i h2; rw [if_neg h1, if_neg h2]; exact ⟨by omega, h2, rfl⟩
      obtain ⟨g1, g2, g3⟩ := hg
      obtain ⟨i1, i2, i3⟩ := grp_enc10 _ g1 g2
      rw [g3, stepR_ok]
      have hu : -9223372036854775808 ≤ unsg (grp (b.drop at_) 10).1 ∧ unsg (grp (b.drop at_) 10).1 < 9223372036854775808 := by unfold unsg; split <;> omega
      refine ⟨⟨fun h => by simp only at h; omega, ⟨hu.1, hu.2, hm1, hm2, by simp⟩, by simp⟩, ?_⟩
      have hE : encV { kind := v.kind, n := unsg (grp (b.drop at_) 10).1, is := false, s := [], most := v.most } = nat (grp (b.drop at_) 10).1 := by unfold encV; simp only [e]; rw [sgn_unsg]
      rw [hE, i1]
      exact drop_split b at_ _
    · exfalso
      revert h
      unfold stepR
      rw [if_neg (by simp), if_pos h0]
      exact h0
  · simp only [e] at h ⊢
    by_cases h0 : (rFlag (b.drop at_)).2.2 = 0
    · have hg : 0 < (b.drop at_).length ∧ ((b.drop at_).getD 0 0).toNat ≤ 1 ∧ rFlag (b.drop at_) = (decide (((b.drop at_).getD 0 0).toNat = 1), 1, 0) := by
        unfold rFlag at h0 ⊢
        split at h0
        · cases h0
        · rename_i h1
          split at h0
          · cases h0
          · rename_i h2; rw [if_neg h1, if_neg h2]; exact ⟨by omega, by omega, rfl⟩
      obtain ⟨g1, g2, g3⟩ := hg
      rw [g3, stepR_ok]
      refine ⟨⟨fun h => by simp only at h; omega, ⟨by simp, by simp, hm1, hm2, by simp⟩, by simp⟩, ?_⟩
      have hE : encV { kind := v.kind, n := 0, is := decide (((b.drop at_).getD 0 0).toNat = 1), s := [], most := v.most } = (b.drop at_).take 1 := by
        unfold encV; simp only [e]
        rw [show (1 : Nat) = 0 + 1 from rfl, take_succ_getD _ 0 g1]
        simp only [List.take_zero, List.nil_append, List.cons.injEq, and_true]
        apply UInt8.toNat_inj.1
        by_cases h1 : ((b.drop at_).getD 0 0).toNat = 0 + 1
        · rw [decide_eq_true h1]; simp only [if_true]; rw [h1]; rfl
        · rw [decide_eq_false h1]; simp only [Bool.false_eq_true, if_false]
          have : ((b.drop at_).getD 0 0).toNat = 0 := by omega
          rw [this]; rfl
      rw [hE]
      exact drop_split b at_ _
    · exfalso
      revert h
      unfold stepR
      rw [if_neg (by simp), if_pos h0]
      exact h0
  · simp only [e] at h ⊢
    by_cases h0 : (rText v.most (b.drop at_)).2.2 = 0
    · have hg : (grp (b.drop at_) 9).2.2 = 0 ∧ (grp (b.drop at_) 9).1 + (grp (b.drop at_) 9).2.1 ≤ (b.drop at_).length ∧ rText v.most (b.drop at_) = (((b.drop at_).drop (grp (b.drop at_) 9).2.1).take (grp (b.drop at_) 9).1, (grp (b.drop at_) 9).2.1 + (grp (b.drop at_) 9).1, 0) := by
        unfold rText at h0 ⊢
        split at h0
        · rename_i h1; exact absurd h0 h1
        · rename_i h1
          split at h0
          · cases h0
          · rename_i h2
            split at h0
            · cases h0
            · rename_i h3; rw [if_neg h1, if_neg h2, if_neg h3]; exact ⟨by omega, by omega, rfl⟩
      obtain ⟨g1, g2, g3⟩ := hg
      obtain ⟨i1, i2⟩ := grp_enc _ g1
      rw [g3, stepR_ok]
      have hl : (((b.drop at_).drop (grp (b.drop at_) 9).2.1).take (grp (b.drop at_) 9).1).length = (grp (b.drop at_) 9).1 := by simp at g2 ⊢; omega
      have hl2 : (grp (b.drop at_) 9).1 ≤ 1000 := by have : (b.drop at_).length ≤ b.length := by simp
                                                     omega
      refine ⟨⟨fun h => by simp only at h; omega, ⟨by simp, by simp, hm1, hm2, Nat.le_trans (Nat.le_of_eq hl) (by unfold maxLen; omega)⟩, Nat.le_trans (Nat.le_of_eq hl) hl2⟩, ?_⟩
      have hE : encV { kind := v.kind, n := 0, is := false, s := ((b.drop at_).drop (grp (b.drop at_) 9).2.1).take (grp (b.drop at_) 9).1, most := v.most } = nat (grp (b.drop at_) 9).1 ++ ((b.drop at_).drop (grp (b.drop at_) 9).2.1).take (grp (b.drop at_) 9).1 := by unfold encV; simp only [e]; rw [hl]
      rw [hE, i1, ← Nat.add_assoc, List.append_assoc]
      have h1 := drop_split b (at_ + (grp (b.drop at_) 9).2.1) (grp (b.drop at_) 9).1
      rw [← List.drop_drop] at h1
      rw [← h1]
      rw [List.take_append_drop]
    · exfalso
      revert h
      unfold stepR
      rw [if_neg (by simp), if_pos h0]
      exact h0
theorem rone_sticky (b : List UInt8) (at_ f : Nat) (v : V) (hf : f ≠ 0) : (rone b (at_, f) v).2 = (at_, f) := by
  unfold rone stepR
  split <;> simp [hf]
theorem rall_sticky (b : List UInt8) (l : List V) (acc : List V) (at_ f : Nat) (hf : f ≠ 0) : (l.foldl (rstep b) (acc, at_, f)).2 = (at_, f) := by
  induction l generalizing acc with
  | nil => rfl
  | cons a r ih =>
    rw [List.foldl_cons]
    have : rstep b (acc, at_, f) a = (acc ++ [(rone b (at_, f) a).1], at_, f) := by unfold rstep; simp only; rw [rone_sticky b at_ f a hf]
    rw [this]; exact ih _
theorem rall_enc (b : List UInt8) (hb : b.length ≤ 1000) (l : List V) (acc : List V) (at_ : Nat) (hok : ∀ v ∈ l, v.Ok) (h : (l.foldl (rstep b) (acc, at_, 0)).2.2 = 0) :
    ∃ got, (l.foldl (rstep b) (acc, at_, 0)).1 = acc ++ got ∧ (∀ x ∈ got, Got x) ∧ b.drop at_ = got.flatMap encV ++ b.drop (l.foldl (rstep b) (acc, at_, 0)).2.1 := by
  induction l generalizing acc at_ with
  | nil => exact ⟨[], by simp, by simp, by simp⟩
  | cons a r ih =>
    rw [List.foldl_cons] at h ⊢
    by_cases h0 : (rone b (at_, 0) a).2.2 = 0
    · obtain ⟨i1, i2⟩ := rone_enc b at_ a hb (hok a (by simp)) h0
      have hs : rstep b (acc, at_, 0) a = (acc ++ [(rone b (at_, 0) a).1], (rone b (at_, 0) a).2.1, 0) := by
        have h9 : rstep b (acc, at_, 0) a = (acc ++ [(rone b (at_, 0) a).1], (rone b (at_, 0) a).2.1, (rone b (at_, 0) a).2.2) := rfl
        rw [h9, h0]
      rw [hs] at h ⊢
      obtain ⟨got, j1, j2, j3⟩ := ih _ _ (fun v hv => hok v (by simp [hv])) h
      refine ⟨(rone b (at_, 0) a).1 :: got, by rw [j1]; simp, fun x hx => ?_, ?_⟩
      · rcases List.mem_cons.1 hx with rfl | hx
        · exact i1
        · exact j2 x hx
      · rw [List.flatMap_cons, List.append_assoc, ← j3]; exact i2
    · exfalso
      have hs : rstep b (acc, at_, 0) a = (acc ++ [(rone b (at_, 0) a).1], (rone b (at_, 0) a).2.1, (rone b (at_, 0) a).2.2) := rfl
      rw [hs, rall_sticky b r _ _ _ h0] at h
      exact h0 h
/-- One encoding for every value: what was read to its end is written the same. -/
theorem canonical (b : List UInt8) (hb : b.length ≤ 1000) (l : List V) (hok : ∀ v ∈ l, v.Ok) (h : (rall b l).2.2 = 0) (hat : b.length ≤ (rall b l).2.1) :
    (rall b l).1.foldl wstep ([], 0) = (b, 0) ∧ ∀ x ∈ (rall b l).1, x.Ok ∧ x.s.length ≤ 1000 := by
  obtain ⟨got, h1, h2, h3⟩ := rall_enc b hb l [] 0 hok h
  have e : (rall b l).1 = got := by rw [show (rall b l).1 = (l.foldl (rstep b) ([], 0, 0)).1 from rfl, h1, List.nil_append]
  rw [e]
  refine ⟨?_, fun x hx => ⟨(h2 x hx).ok, (h2 x hx).len⟩⟩
  rw [fold_good got [] fun v hv => (h2 v hv).good]
  have hd : b.drop (l.foldl (rstep b) ([], 0, 0)).2.1 = [] := List.drop_eq_nil_of_le hat
  rw [hd] at h3
  simp only [List.drop_zero, List.append_nil] at h3
  rw [← h3]; rfl
/-- Bytes that are missing: groups. -/
theorem gE_cut (f n k : Nat) (hn : n < 128 ^ (f + 1)) (hk : k < (natF f n).length) : gE ((natF f n).take k) = k := by
  obtain ⟨h1, _, _⟩ := natF_groups f n hn []
  rw [List.append_nil] at h1
  have hlen : ((natF f n).take k).length = k := by simp; omega
  have h2 := gE_le ((natF f n).take k)
  have h3 := gE_ge ((natF f n).take k) k (by omega) fun j hj => by
    rw [getD_take _ _ _ hj]; exact gE_ge_at _ j (by omega)
  omega
theorem grp_cut10 (n k : Nat) (hn : n < 18446744073709551616) (hk : k < (nat n).length) : grp ((nat n).take k) 10 = (0, 0, 28) := by
  have hu : n < 128 ^ (9 + 1) := Nat.lt_of_lt_of_le hn (by decide +kernel)
  have h := gE_cut 9 n k hu hk
  have hl := natF_len 9 n
  have hlen : ((natF 9 n).take k).length = k := by have : k < (natF 9 n).length := hk
                                                   simp; omega
  unfold nat at hk ⊢
  unfold grp
  rw [h, if_neg (by omega), if_pos (by omega)]
theorem nat8 (n : Nat) (hn : n < 9223372036854775808) : nat n = natF 8 n := by
  have h : ∀ f u, u < 128 ^ (f + 1) → natF (f + 1) u = natF f u := by
    intro f
    induction f with
    | zero => intro u hu; rw [natF_small 1 u (by simpa using hu), natF_small 0 u (by simpa using hu)]
    | succ f ih =>
      intro u hu
      by_cases hs : u < 128
      · rw [natF_small _ _ hs, natF_small _ _ hs]
      · rw [natF_big (f + 1) u (by omega), natF_big f u (by omega), ih (u / 128) (by rw [Nat.pow_succ] at hu; omega)]
  exact h 8 n (Nat.lt_of_lt_of_le hn (by decide +kernel))
theorem grp_cut9 (n k : Nat) (hn : n < 9223372036854775808) (hk : k < (nat n).length) : grp ((nat n).take k) 9 = (0, 0, 28) := by
  rw [nat8 n hn] at hk ⊢
  have hu : n < 128 ^ (8 + 1) := Nat.lt_of_lt_of_le hn (by decide +kernel)
  have h := gE_cut 8 n k hu hk
  have hl := natF_len 8 n
  have hlen : ((natF 8 n).take k).length = k := by simp; omega
  unfold grp
  rw [h, if_neg (by omega), if_pos (by omega)]
theorem rone_cut (b : List UInt8) (at_ k : Nat) (v : V) (hg : v.good) (hf : v.fits) (hok : v.Ok) (hs : v.s.length ≤ 200) (hk : k < (encV v).length) (hb : b.drop at_ = (encV v).take k) : (rone b (at_, 0) v).2 = (at_, 28) := by
  unfold rone
  have hk4 : v.kind.toNat % 4 < 4 := Nat.mod_lt _ (by decide)
  have h1 := hok.n1; have h2 := hok.n2
  rcases (show v.kind.toNat % 4 = 0 ∨ v.kind.toNat % 4 = 1 ∨ v.kind.toNat % 4 = 2 ∨ v.kind.toNat % 4 = 3 by omega) with e | e | e | e
  · have h0 := hg e
    have hE : encV v = nat v.n.toNat := by unfold encV; simp only [e]
    rw [hE] at hk hb
    have hr : rNum v.most (b.drop at_) = (0, 0, 28) := by
      rw [hb]; unfold rNum; rw [grp_cut9 _ _ (by omega) hk]; simp
    simp only [e, hr]; rfl
  · have hE : encV v = nat (sgn v.n) := by unfold encV; simp only [e]
    rw [hE] at hk hb
    have hr : rSig (b.drop at_) = (0, 0, 28) := by rw [hb]; unfold rSig; rw [grp_cut10 _ _ (sgn_lt _ h1 h2) hk]; simp
    simp only [e, hr]; rfl
  · have hE : encV v = [if v.is then 1 else 0] := by unfold encV; simp only [e]
    rw [hE] at hk hb
    have hk0 : k = 0 := by simpa using hk
    subst hk0
    have hr : rFlag (b.drop at_) = (false, 0, 28) := by rw [hb]; rfl
    simp only [e, hr]; rfl
  · have hE : encV v = nat v.s.length ++ v.s := by unfold encV; simp only [e]
    rw [hE] at hk hb
    have hr : rText v.most (b.drop at_) = ([], 0, 28) := by
      rw [hb]
      by_cases hkn : k < (nat v.s.length).length
      · rw [List.take_append_of_le_length (by omega)]
        unfold rText; rw [grp_cut9 _ _ (by omega) hkn]; simp
      · have ht : (nat v.s.length ++ v.s).take k = nat v.s.length ++ v.s.take (k - (nat v.s.length).length) := by rw [List.take_append]; rw [List.take_of_length_le (by omega)]
        rw [ht]
        unfold rText
        have hm := hf.2 e
        rw [grp_nat _ _ (by omega)]
        simp only [ne_eq, not_true_eq_false, if_false]
        rw [if_neg (by omega), if_pos (by simp at hk ⊢; omega)]
    simp only [e, hr]; rfl
/-- Bytes that are missing: a proper beginning of what was written is read with the error 28. -/
theorem rall_cut (b : List UInt8) (l : List V) (acc : List V) (at_ m : Nat) (h : ∀ v ∈ l, v.good ∧ v.fits ∧ v.Ok ∧ v.s.length ≤ 200) (hm : m < (l.flatMap encV).length) (hb : b.drop at_ = (l.flatMap encV).take m) :
    (l.foldl (rstep b) (acc, at_, 0)).2.2 = 28 := by
  induction l generalizing acc at_ m with
  | nil => simp at hm
  | cons a r ih =>
    obtain ⟨h1, h2, h3, h4⟩ := h a (by simp)
    rw [List.foldl_cons]
    rw [List.flatMap_cons] at hm hb
    by_cases hk : m < (encV a).length
    · rw [List.take_append_of_le_length (by omega)] at hb
      have hr := rone_cut b at_ m a h1 h2 h3 h4 hk hb
      have hs : rstep b (acc, at_, 0) a = (acc ++ [(rone b (at_, 0) a).1], at_, 28) := by unfold rstep; simp only; rw [hr]
      rw [hs, rall_sticky b r _ _ _ (by decide)]
    · have ht : (encV a ++ r.flatMap encV).take m = encV a ++ (r.flatMap encV).take (m - (encV a).length) := by rw [List.take_append, List.take_of_length_le (by omega)]
      rw [ht] at hb
      have hr := rone_back b at_ a _ h1 h2 h3 h4 hb
      have hs : rstep b (acc, at_, 0) a = (acc ++ [back a], at_ + (encV a).length, 0) := by unfold rstep; simp only; rw [hr]
      rw [hs]
      refine ih _ _ (m - (encV a).length) (fun v hv => h v (by simp [hv])) (by rw [List.length_append] at hm; omega) ?_
      rw [← List.drop_drop, hb, List.drop_left]
theorem truncated (l : List V) (m : Nat) (h : ∀ v ∈ l, v.good ∧ v.fits ∧ v.Ok ∧ v.s.length ≤ 200) (hm : m < (l.flatMap encV).length) : (rall ((l.flatMap encV).take m) l).2.2 = 28 :=
  rall_cut _ l [] 0 m h hm (by simp)
end Go.Proofs.Ytogagcdlkhinjaa
