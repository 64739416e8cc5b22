/- Fork, by a contract. -/
import Derived.Test.YtlgnhnjnkhnoiaaA8
namespace Go.Proofs.Ytlgnhnjnkhnoiaa
open Go.RowKit
set_option maxRecDepth 100000
theorem needR.sl_ne {S : Option Gsrc} {n0 : Nat} {σ σ' : ST} {p : Nat} (h : needR S n0 σ p σ') {q : Nat} (hpq : q ≠ p) : σ'.sl q = σ.sl q := by
  obtain ⟨f, h1, h2, rfl⟩ := h
  cases hk : (σ.sl p).known
  · cases S with
    | none => simp only [needF_none hk]; exact upd_ne _ _ _ _ hpq
    | some g =>
      cases hs : (sayS g p).2
      · simp only [needF_no hk hs]; exact upd_ne _ _ _ _ hpq
      · simp only [needF_yes hk hs]; exact upd_ne _ _ _ _ hpq
  · simp only [needF_known hk]
theorem needR.known {S : Option Gsrc} {n0 : Nat} {σ σ' : ST} {p : Nat} (h : needR S n0 σ p σ') : (σ'.sl p).known = true := by
  obtain ⟨f, h1, h2, rfl⟩ := h
  cases hk : (σ.sl p).known
  · cases S with
    | none => simp only [needF_none hk, upd_same]
    | some g =>
      cases hs : (sayS g p).2
      · simp only [needF_no hk hs, upd_same]
      · simp only [needF_yes hk hs, upd_same]
  · simp only [needF_known hk]; exact hk
/-- The first k pages are needed, and belong to the space alone no longer. -/
def forkS (S : Option Gsrc) (n0 : Nat) (σ : ST) : Nat → ST → Prop
  | 0, σ' => σ' = σ
  | k + 1, σ' => ∃ σ1 σ2, forkS S n0 σ k σ1 ∧ needR S n0 σ1 k σ2 ∧ σ' = ⟨σ2.cn, upd σ2.sl k { σ2.sl k with own := false }, σ2.fm⟩
def childOf (s : Sl) : Sl := ⟨true, false, s.copy.isSome, false, s.copy⟩
def kidS (sl : SS) (k : Nat) : SS := fun q => if q < k then childOf (sl q) else Sl.zero
theorem kidS_step (sl sl' : SS) (k : Nat) (h : ∀ q, q < k → sl' q = sl q) : upd (kidS sl k) k (childOf (sl' k)) = kidS sl' (k + 1) := by
  funext q
  unfold upd kidS
  by_cases h1 : q = k
  · subst h1; rw [if_pos rfl, if_pos (by omega)]
  · rw [if_neg h1]
    by_cases h2 : q < k
    · rw [if_pos h2, if_pos (by omega), h q h2]
    · rw [if_neg h2, if_neg (by omega)]
theorem kid_keep {W W' : World} {b b' : Nat} {S : Option Gsrc} {σ : ST} {cs : Array Value} (hB : Blk W b' 87 cs) (hne : b' ≠ b) (h : SpA W b S σ) (hk : Keep (tch S b σ.fm) W W') : Blk W' b' 87 cs := by
  refine hB.kept hk fun ht => ?_
  rcases ht with h1 | ⟨g, hg, h1⟩ | h1
  · exact hne h1
  · subst h1; exact ((h.src g hg).ic.ne_blk hB) rfl
  · obtain ⟨bs, hbs⟩ := Option.ne_none_iff_exists'.1 h1
    exact ((h.fr.at_ b' bs hbs).2.ne_ hB (by decide)) rfl
def ForkP (S : Option Gsrc) (b : Nat) (σ : ST) (W : World) (e : Ending) (w' : World) : Prop :=
  ∃ b' σ', e = .returned (.pointer (some ⟨b', 0, none⟩)) ∧ W.heap.size ≤ b' ∧ forkS S W.heap.size σ 64 σ' ∧ ext W.heap.size σ.fm σ'.fm ∧ SpA w' b S σ' ∧ SpA w' b' none ⟨[], kidS σ'.sl 64, σ'.fm⟩ ∧ Keep (tch S b σ.fm) W w'
theorem neq_none (w : World) : (binOp .neq 82 (.pointer none) (.pointer none)).run Try.prog w = .ok (.bool false) w := by kernel_rfl
theorem own_false {W : World} {b : Nat} {S : Option Gsrc} {σ : ST} (h : SpA W b S σ) {p : Nat} (hp : p < 64) : SpA (W.setCell ⟨b, 1 + p * 5 + 3, none⟩ (.bool false)) b S ⟨σ.cn, upd σ.sl p { σ.sl p with own := false }, σ.fm⟩ := by
  refine ⟨h.toSpMem.set p 3 { σ.sl p with own := false } (.bool false) hp (by decide) rfl, fun q hq f hf => ?_, fun hn q hq hkq => ?_⟩
  · rcases upd_cases σ.sl p q { σ.sl p with own := false } with ⟨rfl, e⟩ | ⟨_, e⟩
    · simp only [e] at hf; exact h.ok q hq f hf
    · simp only [e] at hf; exact h.ok q hq f hf
  · rcases upd_cases σ.sl p q { σ.sl p with own := false } with ⟨rfl, e⟩ | ⟨_, e⟩
    · simp only [e] at hkq; exact h.cn0 hn q hq hkq
    · simp only [e] at hkq; exact h.cn0 hn q hq hkq
theorem blk_slot {W : World} {b : Nat} {v : Value} {sl : SS} (h : Blk W b 87 (spc v sl)) {p : Nat} (hp : p < 64) (s : Sl) :
    Blk (((((W.setCell ⟨b, 1 + p * 5, none⟩ (.bool s.known)).setCell ⟨b, 1 + p * 5 + 1, none⟩ (.bool s.asked)).setCell ⟨b, 1 + p * 5 + 2, none⟩ (.bool s.changed)).setCell ⟨b, 1 + p * 5 + 3, none⟩ (.bool s.own)).setCell ⟨b, 1 + p * 5 + 4, none⟩ (pf s.copy)) b 87 (spc v (upd sl p s)) := by
  have h0 := h.set_ (1 + p * 5 + 0) (.bool s.known)
  rw [spc_set v sl p 0 { sl p with known := s.known } _ hp (by decide) rfl] at h0
  have h1 := h0.set_ (1 + p * 5 + 1) (.bool s.asked)
  rw [spc_set v _ p 1 { sl p with known := s.known, asked := s.asked } _ hp (by decide) (by rw [upd_same]; rfl), upd_upd] at h1
  have h2 := h1.set_ (1 + p * 5 + 2) (.bool s.changed)
  rw [spc_set v _ p 2 { sl p with known := s.known, asked := s.asked, changed := s.changed } _ hp (by decide) (by rw [upd_same]; rfl), upd_upd] at h2
  have h3 := h2.set_ (1 + p * 5 + 3) (.bool s.own)
  rw [spc_set v _ p 3 { sl p with known := s.known, asked := s.asked, changed := s.changed, own := s.own } _ hp (by decide) (by rw [upd_same]; rfl), upd_upd] at h3
  have h4 := h3.set_ (1 + p * 5 + 4) (pf s.copy)
  rw [spc_set v _ p 4 s _ hp (by decide) (by rw [upd_same]; rfl), upd_upd] at h4
  exact h4
theorem SpA.far2 {W : World} {b b' k : Nat} {S : Option Gsrc} {σ : ST} {cs : Array Value} (h : SpA W b S σ) (hB : Blk W b' 87 cs) (hne : b ≠ b') (v : Value) : SpA (W.setCell ⟨b', k, none⟩ v) b S σ :=
  ⟨⟨h.blk.far hne _, fun q hq => (h.src q hq).setCell hB (by decide) _, ⟨fun f bs hf => ⟨(h.fr.at_ f bs hf).1, (h.fr.at_ f bs hf).2.far ((h.fr.at_ f bs hf).2.ne_ hB (by decide)) _⟩⟩⟩, h.ok, h.cn0⟩
theorem SpA.drew {W : World} {b : Nat} {S : Option Gsrc} {σ : ST} (h : SpA W b S σ) : SpA W.drew b S σ := ⟨h.toSpMem.drew, h.ok, h.cn0⟩
/-- One page of the child is written. -/
def kidW (W : World) (b' k : Nat) (o : Option Nat) : World :=
  (((((W.setCell ⟨b', 1 + k * 5, none⟩ (.bool true)).setCell ⟨b', 1 + k * 5 + 1, none⟩ (.bool false)).setCell ⟨b', 1 + k * 5 + 2, none⟩ (.bool o.isSome)).setCell ⟨b', 1 + k * 5 + 3, none⟩ (.bool false)).setCell ⟨b', 1 + k * 5 + 4, none⟩ (pf o)).drew
theorem kidW_sp {W : World} {b b' k : Nat} {S : Option Gsrc} {σ : ST} {cs : Array Value} (h : SpA W b S σ) (hB : Blk W b' 87 cs) (hne : b ≠ b') (o : Option Nat) : SpA (kidW W b' k o) b S σ := by
  have h1 := h.far2 (k := 1 + k * 5) hB hne (.bool true)
  have B1 := hB.set_ (1 + k * 5) (.bool true)
  have h2 := h1.far2 (k := 1 + k * 5 + 1) B1 hne (.bool false)
  have B2 := B1.set_ (1 + k * 5 + 1) (.bool false)
  have h3 := h2.far2 (k := 1 + k * 5 + 2) B2 hne (.bool o.isSome)
  have B3 := B2.set_ (1 + k * 5 + 2) (.bool o.isSome)
  have h4 := h3.far2 (k := 1 + k * 5 + 3) B3 hne (.bool false)
  have B4 := B3.set_ (1 + k * 5 + 3) (.bool false)
  exact (h4.far2 (k := 1 + k * 5 + 4) B4 hne (pf o)).drew
theorem kidW_blk {W : World} {b' k : Nat} {v : Value} {sl : SS} (hB : Blk W b' 87 (spc v sl)) (hk : k < 64) (o : Option Nat) : Blk (kidW W b' k o) b' 87 (spc v (upd sl k ⟨true, false, o.isSome, false, o⟩)) :=
  (blk_slot hB hk ⟨true, false, o.isSome, false, o⟩).drew
theorem kidW_keep {S : Nat → Prop} {a W : World} {b' k : Nat} (h : Keep S a W) (hb : a.heap.size ≤ b') (o : Option Nat) : Keep S a (kidW W b' k o) := by
  have hn : ∀ q : Addr, q.block = b' → q.block < a.heap.size → S q.block := fun q e hlt => by omega
  exact (((((h.setCell (hn _ rfl) _).setCell (hn _ rfl) _).setCell (hn _ rfl) _).setCell (hn _ rfl) _).setCell (hn _ rfl) _).drew
set_option maxHeartbeats 2000000 in
theorem fork_any (b : Nat) (S : Option Gsrc) (σ : ST) (W : World) (h : SpA W b S σ) : Calls Try.prog 14 #[.pointer (some ⟨b, 0, none⟩)] W (ForkP S b σ W) := by
  have hz := z87
  have hbW : b < W.heap.size := h.blk.lt
  have hZ : Blk (W.alloc (.cells ZSp 87)) W.heap.size 87 (spc .nilFunc (kidS σ.sl 0)) := Blk.new W 87 _
  have HZ := Lib.hid hZ
  have H0 := Lib.hid (h.after (W' := W.alloc (.cells ZSp 87)) ((Below.refl _ _).alloc (Nat.le_refl _) _))
  have HK0 := Lib.hid ((Keep.refl (tch S b σ.fm) W).alloc (.cells ZSp 87))
  clear hZ h
  have nq1 := neq_frame; have nq2 := neq_none
  go_enter Try.func14, Try.ntmps14
  go_wp2
  generalize W.alloc (.cells ZSp 87) = W1 at HZ H0 HK0 ⊢
  obtain ⟨b', hb'⟩ : ∃ b', b' = W.heap.size := ⟨_, rfl⟩
  have hbb : b < b' := by omega
  have HBe := Lib.hid hb'
  rw [← hb'] at HZ ⊢
  clear hb'
  go_loopw [10] (fun v wr => ∃ k σk, k ≤ 64 ∧ v = .int .i64 (k : Nat) ∧ forkS S W.heap.size σ k σk ∧ ext W.heap.size σ.fm σk.fm ∧ SpA wr b S σk ∧ Blk wr b' 87 (spc .nilFunc (kidS σk.sl k)) ∧ Keep (tch S b σ.fm) W wr) (fun v _ => 64 - (intOf v).toNat)
  case atStart => exact ⟨0, σ, by omega, rfl, rfl, ext.refl _ _, H0.out, HZ.out, HK0.out⟩
  case round =>
    obtain ⟨k, σk, hk, rfl, hf, hex, hsp, hkid, hkp⟩ := hrel
    have HF := Lib.hid hf; have HE := Lib.hid hex; have HS := Lib.hid hsp; have HKid := Lib.hid hkid; have HK := Lib.hid hkp
    clear hf hex hsp hkid hkp
    by_cases hlt : k < 64
    · go_wp2_with fail
      refine (need_ok b S σk k wr HS.out hlt).mono ?_
      rintro e w1 ⟨σ1, hn, rfl, hsp1, hk1⟩
      have hkid1 := kid_keep HKid.out (by omega) HS.out hk1
      have hkp1 := (HK.out.step hk1 HE.out).setCell (p := ⟨b, 1 + k * 5 + 3, none⟩) (fun _ => .inl rfl) (.bool false)
      have hn' := hn.mono HK.out.size
      have hsp2 := own_false hsp1 hlt
      have hkid2 := hkid1.far (p := ⟨b, 1 + k * 5 + 3, none⟩) (by show b' ≠ b; omega) (.bool false)
      have f3 := hsp1.blk.frozen (1 + k * 5 + 3)
      have hold3 : w1.cell? ⟨b, 1 + k * 5 + 3, none⟩ = some (.bool (σ1.sl k).own) := hsp1.slot k 3 hlt (by decide)
      have HN := Lib.hid hn'; have HS2 := Lib.hid hsp2; have HKid2 := Lib.hid hkid2; have HK2 := Lib.hid hkp1
      clear hn hn' hsp1 hk1 hkid1 hkp1 hsp2 hkid2
      go_upto_region 9 with fail
      generalize w1.setCell ⟨b, 1 + k * 5 + 3, none⟩ (.bool false) = w2 at HS2 HKid2 HK2 ⊢
      clear f3 hold3
      have hc4 := slot_copy HS2.out k hlt
      simp only [upd_same] at hc4
      have z := fun i => HKid2.out.frozen i
      have kc : ∀ j, j < 5 → w2.cell? ⟨b', 1 + k * 5 + j, none⟩ = (LSl.enc Sl.zero)[j]? := fun j hj => by
        rw [HKid2.out.cell, spc_get _ _ k j hlt hj]
        simp only [kidS, Nat.lt_irrefl, if_false]
      have q0 : w2.cell? ⟨b', 1 + k * 5, none⟩ = some (.bool false) := kc 0 (by decide)
      have q1 : w2.cell? ⟨b', 1 + k * 5 + 1, none⟩ = some (.bool false) := kc 1 (by decide)
      have q2 : w2.cell? ⟨b', 1 + k * 5 + 2, none⟩ = some (.bool false) := kc 2 (by decide)
      have q3 : w2.cell? ⟨b', 1 + k * 5 + 3, none⟩ = some (.bool false) := kc 3 (by decide)
      have q4 : w2.cell? ⟨b', 1 + k * 5 + 4, none⟩ = some (.pointer none) := kc 4 (by decide)
      clear kc
      have hfin : ∀ o, o = (σ1.sl k).copy → ∃ k' σ', k' ≤ 64 ∧ Value.int .i64 ((k : Nat) + 1) = .int .i64 (k' : Nat) ∧ 64 - k' < 64 - k ∧ forkS S W.heap.size σ k' σ' ∧ ext W.heap.size σ.fm σ'.fm ∧ SpA (kidW w2 b' k o) b S σ' ∧ Blk (kidW w2 b' k o) b' 87 (spc .nilFunc (kidS σ'.sl k')) ∧ Keep (tch S b σ.fm) W (kidW w2 b' k o) := by
        intro o ho
        refine ⟨k + 1, ⟨σ1.cn, upd σ1.sl k { σ1.sl k with own := false }, σ1.fm⟩, by omega, by go_num, by omega, ⟨σk, σ1, HF.out, HN.out, rfl⟩, HE.out.trans HN.out.ext_ (Nat.le_refl _), kidW_sp HS2.out HKid2.out (by omega) o, ?_, kidW_keep HK2.out (by have := HBe.out; omega) o⟩
        have := kidW_blk HKid2.out hlt o
        have e : (⟨true, false, o.isSome, false, o⟩ : Sl) = childOf (upd σ1.sl k { σ1.sl k with own := false } k) := by rw [upd_same, ho]; rfl
        rw [e, kidS_step] at this
        · exact this
        · intro q hq
          rw [upd_ne _ _ _ _ (by omega), HN.out.sl_ne (by omega)]
      have HFin := Lib.hid hfin
      clear hfin
      cases hcp : (σ1.sl k).copy with
      | none =>
        rw [hcp] at hc4
        simp only [pf, Option.map_none] at hc4
        have HFn := Lib.hid (HFin.out none hcp.symm)
        clear hcp
        go_region
        go_wp2
        go_roundw
        case rel =>
          obtain ⟨k', σ', a1, a2, -, a3⟩ := HFn.out
          exact ⟨k', σ', a1, a2, a3⟩
        case measure => simp [intOf]; omega
      | some f =>
        rw [hcp] at hc4
        simp only [pf, Option.map_some] at hc4
        have HFn := Lib.hid (HFin.out (some f) hcp.symm)
        clear hcp
        go_region
        go_wp2
        go_roundw
        case rel =>
          obtain ⟨k', σ', a1, a2, -, a3⟩ := HFn.out
          exact ⟨k', σ', a1, a2, a3⟩
        case measure => simp [intOf]; omega
    · obtain rfl : k = 64 := by omega
      have HFn := Lib.hid (show ForkP S b σ W (.returned (.pointer (some ⟨b', 0, none⟩))) wr from ⟨b', σk, rfl, by have := HBe.out; omega, HF.out, HE.out, HS.out, ⟨⟨HKid.out, (fun g hg => by cases hg), HS.out.fr⟩, (fun p hp f hf => by
        simp only [kidS, if_pos hp, childOf] at hf
        exact HS.out.ok p hp f hf), (fun h => absurd rfl h)⟩, HK.out⟩)
      go_wp2
      go_returns
      exact HFn.out
end Go.Proofs.Ytlgnhnjnkhnoiaa
