/- Plain laws of the codec: what was written is read again; one encoding for every value; bytes that are missing. -/
import Derived.Test.YtogagcdlkhinjaaReadAll
import Derived.Test.YtogagcdlkhinjaaWriteR
namespace Go.Proofs.Ytogagcdlkhinjaa
open Go.RowKit
theorem grp_nat10 (n : Nat) (r : List UInt8) (h : n < 18446744073709551616) : grp (nat n ++ r) 10 = (n, (nat n).length, 0) := by
  have hu : n < 128 ^ (9 + 1) := Nat.lt_of_lt_of_le h (by decide +kernel)
  obtain ⟨h1, h2, h3⟩ := natF_groups 9 n hu r
  have hl := natF_len 9 n
  unfold nat
  unfold grp
  rw [if_neg (by omega), if_neg (by have := @List.length_append _ (natF 9 n) r; omega), if_neg (fun hx => h3 hx.1 hx.2), h1]
  have ht : (natF 9 n ++ r).take (natF 9 n).length = natF 9 n := List.take_left
  rw [ht]
  unfold vm
  rw [h2, Nat.mod_eq_of_lt h]
theorem natF_last (f u : Nat) (h : (natF f u).length = f + 1) : (natF f u).getD f 0 = UInt8.ofNat (u / 128 ^ f) := by
  induction f generalizing u with
  | zero => simp [natF]
  | succ f ih =>
    by_cases hs : u < 128
    · rw [natF_small _ _ hs] at h; simp at h
    · rw [natF_big _ _ (by omega)] at h ⊢
      rw [List.getD_cons_succ, ih (u / 128) (by simpa using h), Nat.div_div_eq_div_mul, Nat.pow_succ, Nat.mul_comm 128]
theorem rSig_nat (n : Nat) (r : List UInt8) (h : n < 18446744073709551616) : rSig (nat n ++ r) = (unsg n, (nat n).length, 0) := by
  unfold rSig
  rw [grp_nat10 n r h]
  simp only [ne_eq, not_true_eq_false, if_false]
  rw [if_neg]
  rintro ⟨h1, h2⟩
  have hl : (natF 9 n).length = 9 + 1 := h1
  have e : (nat n ++ r).getD 9 0 = (natF 9 n).getD 9 0 := by
    unfold nat
    rw [List.getD_eq_getElem?_getD, List.getD_eq_getElem?_getD, List.getElem?_append_left (by omega)]
  rw [e, natF_last 9 n hl] at h2
  have : n / 128 ^ 9 ≤ 1 := by
    have e9 : (128 : Nat) ^ 9 = 9223372036854775808 := by decide +kernel
    rw [e9]; omega
  have h3 : (UInt8.ofNat (n / 128 ^ 9)).toNat = n / 128 ^ 9 := by rw [UInt8.toNat_ofNat']; omega
  omega
theorem unsg_sgn (n : Int) : unsg (sgn n) = n := by
  unfold sgn unsg
  split
  · rename_i h
    rw [if_pos (by omega)]; omega
  · rename_i h
    rw [if_neg (by omega)]; omega
theorem sgn_lt (n : Int) (h1 : -9223372036854775808 ≤ n) (h2 : n < 9223372036854775808) : sgn n < 18446744073709551616 := by
  unfold sgn; split <;> omega
/-- The encoding of a value. -/
def encV (v : V) : List UInt8 :=
  match v.kind.toNat % 4 with
  | 0 => nat v.n.toNat
  | 1 => nat (sgn v.n)
  | 2 => [if v.is then 1 else 0]
  | _ => nat v.s.length ++ v.s
/-- The value can be written. -/
def V.good (v : V) : Prop := v.kind.toNat % 4 = 0 → 0 ≤ v.n
/-- The value's limit permits it. -/
def V.fits (v : V) : Prop := (v.kind.toNat % 4 = 0 → v.most = v.n) ∧ (v.kind.toNat % 4 = 3 → v.most = (v.s.length : Int))
/-- What is read back. -/
def back (v : V) : V :=
  match v.kind.toNat % 4 with
  | 0 => { kind := v.kind, n := v.n, is := false, s := [], most := v.most }
  | 1 => { kind := v.kind, n := v.n, is := false, s := [], most := v.most }
  | 2 => { kind := v.kind, n := 0, is := v.is, s := [], most := v.most }
  | _ => { kind := v.kind, n := 0, is := false, s := v.s, most := v.most }
theorem wstep_good (o : List UInt8) (v : V) (h : v.good) : wstep (o, 0) v = (o ++ encV v, 0) := by
  unfold wstep encV
  have hk : v.kind.toNat % 4 < 4 := Nat.mod_lt _ (by decide)
  rcases (show v.kind.toNat % 4 = 0 ∨ v.kind.toNat % 4 = 1 ∨ v.kind.toNat % 4 = 2 ∨ v.kind.toNat % 4 = 3 by omega) with e | e | e | e
  · have := h e
    simp only [e]; rw [if_neg (by omega)]; rfl
  · simp only [e]; rfl
  · simp only [e]; rfl
  · simp only [e]; rfl
theorem wstep_bad (o : List UInt8) (v : V) (h : ¬ v.good) : wstep (o, 0) v = (o, 2) := by
  have hk : v.kind.toNat % 4 = 0 ∧ v.n < 0 := by
    rcases Nat.lt_or_ge 0 (v.kind.toNat % 4) with h' | h'
    · exact absurd (fun h0 => by omega) h
    · refine ⟨by omega, ?_⟩
      rcases Int.lt_or_le v.n 0 with h2 | h2
      · exact h2
      · exact absurd (fun _ => h2) h
  unfold wstep
  simp only [hk.1]
  rw [if_pos hk.2]; rfl
theorem fold_good (l : List V) (o : List UInt8) (h : ∀ v ∈ l, v.good) : l.foldl wstep (o, 0) = (o ++ l.flatMap encV, 0) := by
  induction l generalizing o with
  | nil => simp
  | cons a r ih =>
    rw [List.foldl_cons, wstep_good o a (h a (by simp)), ih _ (fun v hv => h v (by simp [hv])), List.flatMap_cons, List.append_assoc]
theorem fold_zero (l : List V) (o : List UInt8) (h : (l.foldl wstep (o, 0)).2 = 0) : ∀ v ∈ l, v.good := by
  induction l generalizing o with
  | nil => intro v hv; simp at hv
  | cons a r ih =>
    rw [List.foldl_cons] at h
    by_cases ha : a.good
    · rw [wstep_good o a ha] at h
      intro v hv
      rcases List.mem_cons.1 hv with rfl | hv
      · exact ha
      · exact ih _ h v hv
    · rw [wstep_bad o a ha, fold_failed r o 2 (by decide)] at h
      simp at h
theorem rText_nat (s r : List UInt8) (m : Int) (hm : m = (s.length : Int)) (hs : s.length ≤ 16777216) : rText m (nat s.length ++ s ++ r) = (s, (nat s.length).length + s.length, 0) := by
  unfold rText
  rw [List.append_assoc, grp_nat s.length (s ++ r) (by omega)]
  simp only [ne_eq, not_true_eq_false, if_false]
  rw [if_neg (by omega), if_neg (by simp; omega), List.drop_left, List.take_left]
theorem rone_back (b : List UInt8) (at_ : Nat) (v : V) (r : List UInt8) (hg : v.good) (hf : v.fits) (hok : v.Ok) (hs : v.s.length ≤ 200) (hb : b.drop at_ = encV v ++ r) : rone b (at_, 0) v = (back v, at_ + (encV v).length, 0) := by
  unfold rone back
  have hk : v.kind.toNat % 4 < 4 := Nat.mod_lt _ (by decide)
  have h1 := hok.n1; have h2 := hok.n2
  rcases (show v.kind.toNat % 4 = 0 ∨ v.kind.toNat % 4 = 1 ∨ v.kind.toNat % 4 = 2 ∨ v.kind.toNat % 4 = 3 by omega) with e | e | e | e
  · have h0 := hg e; have hm := hf.1 e
    have hE : encV v = nat v.n.toNat := by unfold encV; simp only [e]
    have hr : rNum v.most (b.drop at_) = (v.n.toNat, (nat v.n.toNat).length, 0) := by
      rw [hb, hE]; unfold rNum; rw [grp_nat _ _ (by omega)]; rw [if_neg (by simp only; omega)]
    simp only [e, hr, stepR_ok, hE]
    rw [Int.toNat_of_nonneg h0]
  · have hE : encV v = nat (sgn v.n) := by unfold encV; simp only [e]
    have hr : rSig (b.drop at_) = (v.n, (nat (sgn v.n)).length, 0) := by rw [hb, hE, rSig_nat _ _ (sgn_lt _ h1 h2), unsg_sgn]
    simp only [e, hr, stepR_ok, hE]
  · have hE : encV v = [if v.is then 1 else 0] := by unfold encV; simp only [e]
    have hr : rFlag (b.drop at_) = (v.is, 1, 0) := by rw [hb, hE]; cases v.is <;> rfl
    simp only [e, hr, stepR_ok, hE]; rfl
  · have hE : encV v = nat v.s.length ++ v.s := by unfold encV; simp only [e]
    have hr : rText v.most (b.drop at_) = (v.s, (nat v.s.length).length + v.s.length, 0) := by rw [hb, hE, rText_nat _ _ _ (hf.2 e) (by omega)]
    simp only [e, hr, stepR_ok, hE, List.length_append]
theorem rall_back (l : List V) (pre post : List UInt8) (acc : List V) (h : ∀ v ∈ l, v.good ∧ v.fits ∧ v.Ok ∧ v.s.length ≤ 200) :
    l.foldl (rstep (pre ++ l.flatMap encV ++ post)) (acc, pre.length, 0) = (acc ++ l.map back, pre.length + (l.flatMap encV).length, 0) := by
  induction l generalizing pre acc with
  | nil => simp
  | cons a r ih =>
    obtain ⟨h1, h2, h3, h4⟩ := h a (by simp)
    have hb : (pre ++ (a :: r).flatMap encV ++ post).drop pre.length = encV a ++ (r.flatMap encV ++ post) := by
      rw [List.append_assoc, List.drop_left, List.flatMap_cons, List.append_assoc]
    rw [List.foldl_cons]
    have hs : rstep (pre ++ (a :: r).flatMap encV ++ post) (acc, pre.length, 0) a = (acc ++ [back a], (pre ++ encV a).length, 0) := by
      unfold rstep; rw [rone_back _ _ a _ h1 h2 h3 h4 hb]; simp
    rw [hs]
    have he : pre ++ (a :: r).flatMap encV ++ post = (pre ++ encV a) ++ r.flatMap encV ++ post := by simp [List.flatMap_cons]
    rw [he, ih (pre ++ encV a) (acc ++ [back a]) fun v hv => h v (by simp [hv])]
    simp [List.flatMap_cons]; omega
/-- What was written is read again, and nothing is left. -/
theorem round_trip (l : List V) (h : ∀ v ∈ l, v.good ∧ v.fits ∧ v.Ok ∧ v.s.length ≤ 200) : rall (l.flatMap encV) l = (l.map back, (l.flatMap encV).length, 0) := by
  have := rall_back l [] [] [] h
  simpa [rall] using this
end Go.Proofs.Ytogagcdlkhinjaa
