/- What two spaces share: the plain law; a byte that is loaded and stored again. -/
import Derived.Test.YtlgnhnjnkhnoiaaA14
import Derived.Test.YtlgnhnjnkhnoiaaArgs2
namespace Go.Proofs.Ytlgnhnjnkhnoiaa
open Go.RowKit
set_option maxRecDepth 100000
def cN (P : Nat → Bool) : Nat → Nat
  | 0 => 0
  | k + 1 => cN P k + if P k = true then 1 else 0
theorem cN_congr {P Q : Nat → Bool} : ∀ k, (∀ q, q < k → P q = Q q) → cN P k = cN Q k := by
  intro k
  induction k with
  | zero => intro _; rfl
  | succ k ih => intro h; unfold cN; rw [ih fun q hq => h q (by omega), h k (by omega)]
theorem cN_add (P : Nat → Bool) (x : Nat) (hx : P x = false) : ∀ k, x < k → cN (fun q => if q = x then true else P q) k = cN P k + 1 := by
  intro k
  induction k with
  | zero => intro h; omega
  | succ k ih =>
    intro h
    unfold cN
    by_cases e : x = k
    · subst e
      rw [cN_congr (P := fun q => if q = x then true else P q) (Q := P) x fun q hq => if_neg (by omega)]
      simp [hx]
    · rw [ih (by omega), if_neg (show ¬ k = x by omega)]
      omega
def hasK (m : List (Int × Value)) : Nat → Bool := fun q => (iget m (q : Int)).isSome
theorem hasK_put (m : List (Int × Value)) (x : Nat) (v : Value) (q : Nat) : hasK (iput m x v) q = if q = x then true else hasK m q := by
  unfold hasK
  rw [iget_iput]
  by_cases h : q = x
  · rw [if_pos (by omega), if_pos h]; rfl
  · rw [if_neg (by omega), if_neg h]
theorem cN_put (m : List (Int × Value)) (x : Nat) (hx : x < 64) (v : Value) (h : cN (hasK m) 64 = m.length) : cN (hasK (iput m x v)) 64 = (iput m x v).length := by
  rw [iput_len, cN_congr (P := hasK (iput m x v)) (Q := fun q => if q = x then true else hasK m q) 64 fun q _ => hasK_put m x v q]
  cases hb : hasK m x
  · rw [cN_add _ _ hb 64 hx, h, if_neg (by have : (iget m x).isSome = false := hb; rw [this]; decide)]
  · rw [cN_congr (Q := hasK m) 64 (fun q _ => by by_cases e : q = x <;> simp [e, hb]), h, if_pos (show (iget m x).isSome = true from hb)]
theorem cN_src (l : List FV) : cN (hasK (srcL l)) 64 = (srcL l).length := by
  have key : ∀ (l : List FV) (m : List (Int × Value)), cN (hasK m) 64 = m.length → cN (hasK (l.foldl srcStep m)) 64 = (l.foldl srcStep m).length := by
    intro l
    induction l with
    | nil => intro m h; exact h
    | cons a r ih =>
      intro m h
      refine ih _ ?_
      unfold srcStep
      rw [show (a.page.toNat : Int) % 64 = ((a.page.toNat % 64 : Nat) : Int) by omega]
      exact cN_put m _ (by omega) _ h
  exact key _ [] rfl
theorem say_has {g : Gsrc} (hs : ∀ x v, iget g.pg x = some v → ∃ s : ByteArray, v = .string s) (p : Nat) : (sayS g p).2 = hasK g.pg p := by
  unfold sayS hasK
  cases h : iget g.pg p with
  | none => rfl
  | some v => obtain ⟨s, rfl⟩ := hs p v h; rfl
theorem fork_fresh {g : Gsrc} {n0 : Nat} : ∀ (k : Nat) (σ' : ST), forkS (some g) n0 ⟨[], fun _ => Sl.zero, fun _ => none⟩ k σ' →
    (∀ q, q < k → (σ'.sl q).copy.isSome = (sayS g q).2 ∧ (σ'.sl q).own = false) ∧ ∀ q, k ≤ q → σ'.sl q = Sl.zero := by
  intro k
  induction k with
  | zero => rintro σ' rfl; exact ⟨fun q hq => by omega, fun q _ => rfl⟩
  | succ k ih =>
    rintro σ' ⟨σ1, σ2, h1, h2, rfl⟩
    obtain ⟨i1, i2⟩ := ih σ1 h1
    refine ⟨fun q hq => ?_, fun q hq => ?_⟩
    · rcases upd_cases σ2.sl k q { σ2.sl k with own := false } with ⟨rfl, e⟩ | ⟨hne, e⟩
      · simp only [e]
        refine ⟨?_, trivial⟩
        obtain ⟨f, _, _, rfl⟩ := h2
        have hz : σ1.sl q = Sl.zero := i2 q (Nat.le_refl _)
        have hkn : (σ1.sl q).known = false := by rw [hz]; rfl
        cases hs : (sayS g q).2
        · simp only [needF_no hkn hs, upd_same, hz]; rfl
        · simp only [needF_yes hkn hs, upd_same]; rfl
      · simp only [e]
        rw [h2.sl_ne hne]
        exact i1 q (by omega)
    · rcases upd_cases σ2.sl k q { σ2.sl k with own := false } with ⟨rfl, e⟩ | ⟨hne, e⟩
      · omega
      · simp only [e]
        rw [h2.sl_ne hne]
        exact i2 q (by omega)
/-- Two spaces: all is known; m: the pages that are there; T: those that were stored to. -/
structure ShI (m T : List (Int × Value)) (sa sb : SS) (fm : FM) : Prop where
  kn : ∀ p, p < 64 → (sa p).known = true ∧ (sb p).known = true
  th : ∀ p, p < 64 → (sa p).copy.isSome = hasK m p ∧ (sb p).copy.isSome = hasK m p
  co : ∀ p, p < 64 → contP sa fm p = contP sb fm p
  un : ∀ p, p < 64 → hasK T p = false → (sa p).copy = (sb p).copy ∧ (sa p).own = false ∧ (sb p).own = false
  ts : ∀ p, p < 64 → hasK T p = true → (sa p).copy ≠ (sb p).copy ∧ hasK m p = true
theorem ShI.symm {m T : List (Int × Value)} {sa sb : SS} {fm : FM} (h : ShI m T sa sb fm) : ShI m T sb sa fm :=
  ⟨fun p hp => (h.kn p hp).symm, fun p hp => (h.th p hp).symm, fun p hp => (h.co p hp).symm, fun p hp ht => ⟨(h.un p hp ht).1.symm, (h.un p hp ht).2.symm⟩, fun p hp ht => ⟨fun e => (h.ts p hp ht).1 e.symm, (h.ts p hp ht).2⟩⟩
theorem ShI.count {m T : List (Int × Value)} {sa sb : SS} {fm : FM} (h : ShI m T sa sb fm) : ∀ k, k ≤ 64 → shN sa sb k + cN (hasK T) k = cN (hasK m) k := by
  intro k
  induction k with
  | zero => intro _; rfl
  | succ k ih =>
    intro hk
    have hi := ih (by omega)
    have hth := (h.th k (by omega)).1
    unfold shN cN
    cases hm : hasK m k
    · rw [hm] at hth
      have hT : hasK T k = false := by
        cases ht : hasK T k
        · rfl
        · have := (h.ts k (by omega) ht).2; rw [hm] at this; cases this
      have hc : (sa k).copy = none := by simpa using hth
      have hb : shB (sa k) (sb k) = false := by unfold shB; rw [hc]
      rw [hb, hT]; simpa using hi
    · rw [hm] at hth
      obtain ⟨f, hf⟩ := Option.isSome_iff_exists.1 hth
      cases ht : hasK T k
      · have hb : shB (sa k) (sb k) = true := by unfold shB; rw [hf, ← (h.un k (by omega) ht).1, hf]; simp
        rw [hb]; simp; omega
      · have hb : shB (sa k) (sb k) = false := by
          unfold shB; rw [hf]
          have hn := (h.ts k (by omega) ht).1
          rw [hf] at hn
          simp only [beq_eq_false_iff_ne, ne_eq]
          exact fun e => hn e.symm
        rw [hb]; simp; omega
theorem ShI.total {m T : List (Int × Value)} {sa sb : SS} {fm : FM} (h : ShI m T sa sb fm) (hm : cN (hasK m) 64 = m.length) (hT : cN (hasK T) 64 = T.length) : shN sa sb 64 + T.length = m.length := by
  have := h.count 64 (Nat.le_refl _); omega
theorem contP_up {sl : SS} {fm : FM} {q f : Nat} {x : Option (List UInt8)} (hf : fm f = none) (hok : ∀ f1, (sl q).copy = some f1 → ∃ bs, fm f1 = some bs) : contP sl (upd fm f x) q = contP sl fm q := by
  unfold contP
  cases hc : (sl q).copy with
  | none => rfl
  | some f1 =>
    obtain ⟨bs, hb⟩ := hok f1 hc
    have hne : f1 ≠ f := fun e => by rw [e, hf] at hb; cases hb
    simp only [Option.bind_some]
    exact upd_ne _ _ _ _ hne
theorem set_getD (bs : List UInt8) (h : bs.length = 64) : bs.set 0 (bs.getD 0 0) = bs := by
  cases bs with
  | nil => cases h
  | cons a r => rfl
def okS (sl : SS) (fm : FM) : Prop := ∀ p, p < 64 → ∀ f, (sl p).copy = some f → ∃ bs, fm f = some bs
theorem ShI.step {m T : List (Int × Value)} {cn : List (Int × Value)} {sa sb : SS} {fm : FM} (h : ShI m T sa sb fm) {n0 p : Nat} (hp : p < 64) {c : UInt8} {σ' : ST} (hr : putR n0 ⟨cn, sa, fm⟩ (p * 64) c σ') (hc : c = byteAt ⟨cn, sa, fm⟩ (p * 64)) (hoa : okS sa fm) (hob : okS sb fm) (v : Value) :
    ShI m (iput T p v) σ'.sl sb σ'.fm ∧ fmGrow fm σ'.fm ∧ okS σ'.sl σ'.fm := by
  obtain ⟨f, f0, bs, -, hf, hcp, hf0, hbl, rfl⟩ := hr
  have e1 : p * 64 / 64 = p := by omega
  have e2 : p * 64 % 64 = 0 := by omega
  simp only [e1, e2] at hf hcp hf0 ⊢
  have hcb : c = bs.getD 0 0 := by rw [hc, byteAt_eq (by simp only [e1]; exact hcp) (by exact hf0), e2]
  subst hcb
  rw [set_getD bs hbl]
  have hmp : hasK m p = true := by rw [← (h.th p hp).1, hcp]; rfl
  by_cases ho : (sa p).own = true
  · rw [if_pos ho]
    have hfm : upd fm f0 (some bs) = fm := by rw [← hf0]; exact upd_self _ _
    rw [hfm]
    have hcs : ∀ q, (upd sa p (chgSl (sa p) f) q).copy = (sa q).copy ∧ (upd sa p (chgSl (sa p) f) q).known = (sa q).known ∧ (upd sa p (chgSl (sa p) f) q).own = (sa q).own := fun q => by
      rcases upd_cases sa p q (chgSl (sa p) f) with ⟨rfl, e⟩ | ⟨_, e⟩
      · rw [e]; unfold chgSl; rw [if_pos ho]; exact ⟨rfl, rfl, rfl⟩
      · rw [e]; exact ⟨rfl, rfl, rfl⟩
    have htp : hasK T p = true := by
      cases ht : hasK T p
      · have := (h.un p hp ht).2.1; rw [ho] at this; cases this
      · rfl
    have hTe : ∀ q, hasK (iput T p v) q = hasK T q := fun q => by
      rw [hasK_put]
      by_cases e : q = p
      · rw [if_pos e, e, htp]
      · rw [if_neg e]
    refine ⟨⟨fun q hq => ?_, fun q hq => ?_, fun q hq => ?_, fun q hq ht => ?_, fun q hq ht => ?_⟩, fun f bs hb => ⟨bs, hb⟩, fun q hq f1 h1 => ?_⟩
    · rw [(hcs q).2.1]; exact h.kn q hq
    · rw [(hcs q).1]; exact h.th q hq
    · unfold contP; rw [(hcs q).1]; exact h.co q hq
    · rw [hTe] at ht; rw [(hcs q).1, (hcs q).2.2]; exact h.un q hq ht
    · rw [hTe] at ht; rw [(hcs q).1]; exact h.ts q hq ht
    · rw [(hcs q).1] at h1; exact hoa q hq f1 h1
  · rw [if_neg ho]
    have hch : (chgSl (sa p) f).copy = some f ∧ (chgSl (sa p) f).known = (sa p).known := by unfold chgSl; rw [if_neg ho]; exact ⟨rfl, rfl⟩
    have hfmg : fmGrow fm (upd fm f (some bs)) := fun f1 b1 hb => by
      have hne : f1 ≠ f := fun e => by rw [e, hf] at hb; cases hb
      exact ⟨b1, by rw [upd_ne _ _ _ _ hne]; exact hb⟩
    have hbp : contP sb (upd fm f (some bs)) p = some bs := by
      rw [contP_up hf (hob p hp), ← h.co p hp]
      unfold contP; rw [hcp]; exact hf0
    refine ⟨⟨fun q hq => ?_, fun q hq => ?_, fun q hq => ?_, fun q hq ht => ?_, fun q hq ht => ?_⟩, hfmg, fun q hq f1 h1 => ?_⟩
    · rcases upd_cases sa p q (chgSl (sa p) f) with ⟨rfl, e⟩ | ⟨_, e⟩
      · rw [e, hch.2]; exact h.kn q hq
      · rw [e]; exact h.kn q hq
    · rcases upd_cases sa p q (chgSl (sa p) f) with ⟨rfl, e⟩ | ⟨_, e⟩
      · rw [e, hch.1, hmp]; exact ⟨rfl, by rw [(h.th q hq).2, hmp]⟩
      · rw [e]; exact h.th q hq
    · rcases upd_cases sa p q (chgSl (sa p) f) with ⟨rfl, e⟩ | ⟨_, e⟩
      · rw [hbp]; unfold contP; rw [e, hch.1]; exact upd_same _ _ _
      · have e1 : contP (upd sa p (chgSl (sa p) f)) (upd fm f (some bs)) q = contP sa (upd fm f (some bs)) q := by unfold contP; rw [e]
        rw [e1, contP_up hf (hoa q hq), contP_up hf (hob q hq)]
        exact h.co q hq
    · rw [hasK_put] at ht
      by_cases e : q = p
      · rw [if_pos e] at ht; cases ht
      · rw [if_neg e] at ht
        rw [upd_ne _ _ _ _ e]
        exact h.un q hq ht
    · rw [hasK_put] at ht
      rcases upd_cases sa p q (chgSl (sa p) f) with ⟨rfl, e⟩ | ⟨hne, e⟩
      · rw [e, hch.1]
        refine ⟨fun e2 => ?_, hmp⟩
        obtain ⟨b1, hb1⟩ := hob q hq f e2.symm
        rw [hf] at hb1; cases hb1
      · rw [if_neg hne] at ht
        rw [e]
        exact h.ts q hq ht
    · rcases upd_cases sa p q (chgSl (sa p) f) with ⟨rfl, e⟩ | ⟨_, e⟩
      · rw [e, hch.1] at h1; injection h1 with h1; subst h1; exact ⟨_, upd_same _ _ _⟩
      · rw [e] at h1
        obtain ⟨b1, hb1⟩ := hoa q hq f1 h1
        exact hfmg f1 b1 hb1
theorem reachA_one {S : Option Gsrc} {n0 : Nat} {σ σ' : ST} {p : Nat} {ok : Bool} (hk : Kno σ) (hp : p < 64) (h : reachA S n0 σ (p * 64) 1 σ' ok) : σ' = σ ∧ ok = (σ.sl p).copy.isSome := by
  have e := reachA_known hk h
  refine ⟨e, ?_⟩
  subst e
  rcases h with ⟨h, _⟩ | ⟨_, h, _⟩ | ⟨_, _, h⟩
  · cases h
  · omega
  · have e1 : p * 64 / 64 = p := by omega
    have e2 : (p * 64 + 1 - 1) / 64 + 1 - p * 64 / 64 = 1 := by omega
    rw [e2, e1] at h
    obtain ⟨σ1, hn, h⟩ := h
    have := needR_known (hk p hp) hn
    subst this
    rcases h with ⟨h1, _, h2⟩ | ⟨h1, _, h2⟩
    · rw [h1, h2]; rfl
    · rw [h2]; exact (Option.isSome_iff_ne_none.2 h1).symm
theorem load_kn (b : Nat) (S : Option Gsrc) (σ : ST) (p : Nat) (a : Int) (W : World) (h : SpA W b S σ) (hk : Kno σ) (hp : p < 64) (ha : a = (p * 64 : Nat)) :
    Calls Try.prog 15 #[.pointer (some ⟨b, 0, none⟩), .int .i64 a, .int .i64 1] W fun e w' => e = .returned (.tuple #[.string (str (if (σ.sl p).copy.isSome = true then [byteAt σ (p * 64)] else [])), .int .i64 (if (σ.sl p).copy.isSome = true then 0 else 23)]) ∧ SpA w' b S σ ∧ Keep (tch S b σ.fm) W w' := by
  subst ha
  refine (load_any b S σ (p * 64) 1 W h (by omega) (by omega)).mono ?_
  rintro e w' ⟨σ', ok, rfl, hr, -, h1, h2⟩
  obtain ⟨rfl, rfl⟩ := reachA_one hk hp hr
  exact ⟨rfl, h1, h2⟩
theorem store_kn (b : Nat) (S : Option Gsrc) (σ : ST) (p : Nat) (a : Int) (c : UInt8) (W : World) (h : SpA W b S σ) (hk : Kno σ) (hp : p < 64) (ha : a = (p * 64 : Nat)) (hc : (σ.sl p).copy.isSome = true) :
    Calls Try.prog 16 #[.pointer (some ⟨b, 0, none⟩), .int .i64 a, .string (str [c])] W fun e w' => ∃ σ', e = .returned (.int .i64 0) ∧ putR W.heap.size σ (p * 64) c σ' ∧ ext W.heap.size σ.fm σ'.fm ∧ SpA w' b S σ' ∧ Keep (tch S b σ.fm) W w' := by
  subst ha
  refine (store_any b S σ (p * 64) [c] W h (by omega) (by simp)).mono ?_
  rintro e w' ⟨σ1, σ', ok, rfl, hr, h1, h2, h3, h4⟩
  obtain ⟨rfl, rfl⟩ := reachA_one hk hp hr
  rw [if_pos hc] at h1
  obtain ⟨σ2, h5, rfl⟩ := h1
  exact ⟨_, by rw [if_pos hc], h5, h2, h3, h4⟩
theorem SpA.mapped {W W' : World} {b : Nat} {S : Option Gsrc} {σ : ST} (h : SpA W b S σ) {bt : Nat} {T : List (Int × Value)} (hT : IM W bt T) (hg : W.grownBy W' (some bt)) (hne : ∀ g, S = some g → bt ≠ g.bm ∧ bt ≠ g.bc) : SpA W' b S σ := by
  have hB : ∀ {q : Nat} {t : TypeId} {cs : Array Value}, Blk W q t cs → Blk W' q t cs := fun {q t cs} k => k.grown hg (fun e => by injection e with e; exact hT.ne_blk k e.symm)
  exact ⟨⟨hB h.blk, fun g hgs => ⟨hB (h.src g hgs).blk, (h.src g hgs).im.grown hg (fun e => by injection e with e; exact (hne g hgs).1 e.symm), (h.src g hgs).ic.grown hg (fun e => by injection e with e; exact (hne g hgs).2 e.symm), (h.src g hgs).ne, (h.src g hgs).na, (h.src g hgs).str⟩,
    ⟨fun f bs hf => ⟨(h.fr.at_ f bs hf).1, hB (h.fr.at_ f bs hf).2⟩⟩⟩, h.ok, h.cn0⟩
theorem IM.kept {W W' : World} {b bt : Nat} {S : Option Gsrc} {σ : ST} {T : List (Int × Value)} (hT : IM W bt T) (h : SpA W b S σ) (hk : Keep (tch S b σ.fm) W W') (hne : ∀ g, S = some g → bt ≠ g.bc) : IM W' bt T :=
  hT.of_block (hk.block bt hT.lt fun ht => by
    rcases ht with e | ⟨g, hg, e⟩ | e
    · exact hT.ne_blk h.blk e
    · exact hne g hg e
    · obtain ⟨bs, hbs⟩ := Option.ne_none_iff_exists'.1 e
      exact hT.ne_blk (h.fr.at_ bt bs hbs).2 rfl)
end Go.Proofs.Ytlgnhnjnkhnoiaa
