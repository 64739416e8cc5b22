/- Store, by a contract. -/
import Derived.Test.YtlgnhnjnkhnoiaaA5
import Derived.BigRegion
namespace Go.Proofs.Ytlgnhnjnkhnoiaa
open Go.RowKit
set_option maxRecDepth 100000
theorem SpMem.put {W : World} {b : Nat} {S : Option Gsrc} {cn : List (Int × Value)} {sl : SS} {fm : FM} (h : SpMem W b S cn sl fm) {f : Nat} {bs : List UInt8} (hf : fm f = some bs) (k : Nat) (c : UInt8) :
    SpMem (W.setCell ⟨f, k, none⟩ (b8 c)) b S cn sl (upd fm f (some (bs.set k c))) := by
  have hB := (h.fr.at_ f bs hf).2
  refine ⟨h.blk.far (h.blk.ne_ hB (by decide)) _, fun g hg => (h.src g hg).setCell hB (by decide) _, ⟨fun f' bs' hf' => ?_⟩⟩
  rcases upd_cases fm f f' (some (bs.set k c)) with ⟨rfl, e⟩ | ⟨hne, e⟩
  · rw [e] at hf'
    injection hf' with hf'
    subst hf'
    exact ⟨by rw [List.length_set]; exact (h.fr.at_ f' bs hf).1, by have := hB.set_ k (b8 c); rwa [frc_set] at this⟩
  · rw [e] at hf'
    exact ⟨(h.fr.at_ f' bs' hf').1, (h.fr.at_ f' bs' hf').2.far (by exact hne) _⟩
/-- A byte is put into a page that is there; f: the new frame, if there is one. -/
def putR (n0 : Nat) (σ : ST) (a : Nat) (c : UInt8) (σ' : ST) : Prop :=
  ∃ f f0 bs, n0 ≤ f ∧ σ.fm f = none ∧ (σ.sl (a / 64)).copy = some f0 ∧ σ.fm f0 = some bs ∧ bs.length = 64 ∧
    σ' = ⟨σ.cn, upd σ.sl (a / 64) (chgSl (σ.sl (a / 64)) f), upd σ.fm (if (σ.sl (a / 64)).own = true then f0 else f) (some (bs.set (a % 64) c))⟩
def storeR (n0 : Nat) : ST → Nat → List UInt8 → ST → Prop
  | σ, _, [], σ' => σ' = σ
  | σ, a, c :: r, σ' => ∃ σ1, putR n0 σ a c σ1 ∧ storeR n0 σ1 (a + 1) r σ'
theorem putR.mono {n0 n1 : Nat} {σ σ' : ST} {a : Nat} {c : UInt8} (h : putR n1 σ a c σ') (hn : n0 ≤ n1) : putR n0 σ a c σ' := by
  obtain ⟨f, f0, bs, h1, h2⟩ := h; exact ⟨f, f0, bs, by omega, h2⟩
theorem putR.ext_ {n0 : Nat} {σ σ' : ST} {a : Nat} {c : UInt8} (h : putR n0 σ a c σ') : ext n0 σ.fm σ'.fm := by
  obtain ⟨f, f0, bs, h1, h2, h3, h4, _, rfl⟩ := h
  intro i hi hc
  simp only at hc
  by_cases ho : (σ.sl (a / 64)).own = true
  · rw [if_pos ho] at hc
    by_cases e : i = f0
    · rw [e, h4]; simp
    · rw [upd_ne _ _ _ _ e] at hc; exact hc
  · rw [if_neg ho, upd_ne _ _ _ _ (by omega)] at hc; exact hc
theorem chgSl_copy {s : Sl} {f f0 : Nat} (h : s.copy = some f0) : (chgSl s f).copy = some (if s.own = true then f0 else f) := by
  unfold chgSl
  by_cases ho : s.own = true
  · rw [if_pos ho, if_pos ho]; exact h
  · rw [if_neg ho, if_neg ho]
theorem chg_fm {σ : ST} {p f f0 : Nat} {bs : List UInt8} (hf : σ.fm f0 = some bs) : chgFm (σ.sl p) σ.fm f bs (if (σ.sl p).own = true then f0 else f) = some bs := by
  unfold chgFm
  by_cases ho : (σ.sl p).own = true
  · rw [if_pos ho, if_pos ho]; exact hf
  · rw [if_neg ho, if_neg ho]; exact upd_same _ _ _
theorem chg_upd {σ : ST} {p f f0 : Nat} {bs cs : List UInt8} : upd (chgFm (σ.sl p) σ.fm f bs) (if (σ.sl p).own = true then f0 else f) (some cs) = upd σ.fm (if (σ.sl p).own = true then f0 else f) (some cs) := by
  unfold chgFm
  by_cases ho : (σ.sl p).own = true
  · rw [if_pos ho, if_pos ho]
  · rw [if_neg ho, if_neg ho, upd_upd]
theorem putR.there {n0 : Nat} {σ σ' : ST} {a : Nat} {c : UInt8} (h : putR n0 σ a c σ') {q : Nat} (hq : (σ.sl q).copy ≠ none) : (σ'.sl q).copy ≠ none := by
  obtain ⟨f, f0, bs, h1, h2, h3, h4, _, rfl⟩ := h
  rcases upd_cases σ.sl (a / 64) q (chgSl (σ.sl (a / 64)) f) with ⟨rfl, e⟩ | ⟨_, e⟩
  · simp only [e]; rw [chgSl_copy h3]; simp
  · simp only [e]; exact hq
theorem needR.copy {S : Option Gsrc} {n0 : Nat} {σ σ' : ST} {p : Nat} (h : needR S n0 σ p σ') {q : Nat} (hq : (σ.sl q).copy ≠ none) (hpq : q ≠ p) : (σ'.sl q).copy ≠ none := by
  obtain ⟨f, h1, h2, rfl⟩ := h
  cases hk : (σ.sl p).known
  · cases S with
    | none => simp only [needF_none hk]; rw [upd_ne _ _ _ _ hpq]; exact hq
    | some g =>
      cases hs : (sayS g p).2
      · simp only [needF_no hk hs]; rw [upd_ne _ _ _ _ hpq]; exact hq
      · simp only [needF_yes hk hs]; rw [upd_ne _ _ _ _ hpq]; exact hq
  · simp only [needF_known hk]; exact hq
theorem reachR.copy {S : Option Gsrc} {n0 : Nat} : ∀ (n : Nat) (σ : ST) (p : Nat) (σ' : ST), reachR S n0 n σ p σ' true → (∀ q, q < p → (σ.sl q).copy ≠ none → (σ'.sl q).copy ≠ none) ∧ ∀ q, p ≤ q → q < p + n → (σ'.sl q).copy ≠ none := by
  intro n
  induction n with
  | zero => intro σ p σ' h; obtain ⟨rfl, _⟩ := h; exact ⟨fun _ _ h => h, fun q h1 h2 => by omega⟩
  | succ n ih =>
    intro σ p σ' h
    obtain ⟨σ1, hn, ⟨_, _, h⟩ | ⟨hc, hr⟩⟩ := h
    · cases h
    · obtain ⟨i1, i2⟩ := ih σ1 (p + 1) σ' hr
      refine ⟨fun q hq hcq => i1 q (by omega) (hn.copy hcq (by omega)), fun q h1 h2 => ?_⟩
      by_cases e : q = p
      · subst e; exact i1 q (by omega) hc
      · exact i2 q (by omega) (by omega)
theorem reachA.copy {S : Option Gsrc} {n0 : Nat} {σ σ' : ST} {at_ n : Nat} (h : reachA S n0 σ at_ n σ' true) (hn : n ≠ 0) : at_ + n ≤ 4096 ∧ ∀ q, at_ / 64 ≤ q → q ≤ (at_ + n - 1) / 64 → (σ'.sl q).copy ≠ none := by
  rcases h with ⟨h, _⟩ | ⟨_, _, _, h⟩ | ⟨_, h1, h2⟩
  · exact absurd h hn
  · cases h
  · have := (h2.copy).2
    exact ⟨h1, fun q hq1 hq2 => this q hq1 (by omega)⟩
def StoreP (S : Option Gsrc) (b : Nat) (σ : ST) (at_ : Nat) (l : List UInt8) (W : World) (e : Ending) (w' : World) : Prop :=
  ∃ σ1 σ' ok, e = .returned (.int .i64 (if ok = true then 0 else 23)) ∧ reachA S W.heap.size σ at_ l.length σ1 ok ∧ (if ok = true then storeR W.heap.size σ1 at_ l σ' else σ' = σ1) ∧ ext W.heap.size σ.fm σ'.fm ∧ SpA w' b S σ' ∧ Keep (tch S b σ.fm) W w'
theorem frame_cell {W : World} {b : Nat} {S : Option Gsrc} {σ : ST} (h : SpA W b S σ) {f : Nat} {bs : List UInt8} (hf : σ.fm f = some bs) (k : Nat) (hk : k < 64) : W.cell? ⟨f, k, none⟩ = some (.int .u8 ((bs.getD k 0).toNat : Int)) ∧ W.frozen? ⟨f, k, none⟩ = false :=
  ⟨((h.fr.at_ f bs hf).2.cell k).trans (frc_get bs k (by rw [(h.fr.at_ f bs hf).1]; exact hk)), (h.fr.at_ f bs hf).2.frozen k⟩
set_option maxHeartbeats 2000000 in
theorem store_any (b : Nat) (S : Option Gsrc) (σ : ST) (at_ : Nat) (l : List UInt8) (W : World) (h : SpA W b S σ) (ha : at_ ≤ 9223372036854775807) (hl : l.length ≤ 9223372036854775807) :
    Calls Try.prog 16 #[.pointer (some ⟨b, 0, none⟩), .int .i64 (at_ : Nat), .string (str l)] W (StoreP S b σ at_ l W) := by
  have hsz : (str l).size = l.length := rfl
  have HR := Lib.hid (reach_any b S σ at_ l.length W h ha hl)
  have HSz := Lib.hid hsz
  clear h hsz
  go_enter Try.func16, Try.ntmps16
  go_wp2_with fail
  refine HR.out.mono ?_
  rintro e W1 ⟨σ1, ok, rfl, hr, hex, hsp, hk⟩
  cases ok
  · have HF := Lib.hid (show StoreP S b σ at_ l W (.returned (.int .i64 23)) W1 from ⟨σ1, σ1, false, rfl, hr, rfl, hex, hsp, hk⟩)
    clear hr hex hsp hk
    simp only [Bool.false_eq_true, if_false]
    go_wp2
    go_returns
    exact HF.out
  · simp only [if_true]
    have hcp : l.length ≠ 0 → at_ + l.length ≤ 4096 ∧ ∀ q, at_ / 64 ≤ q → q ≤ (at_ + l.length - 1) / 64 → (σ1.sl q).copy ≠ none := fun hn => hr.copy hn
    have HCp := Lib.hid hcp; have HReach := Lib.hid hr; have HEx := Lib.hid hex; have HSp := Lib.hid hsp; have HK := Lib.hid hk
    clear hcp hr hex hsp hk
    go_wp2
    go_loopw [22] (fun v wr => ∃ i σi, i ≤ l.length ∧ v = .int .i64 (i : Nat) ∧ SpA wr b S σi ∧ Keep (tch S b σ.fm) W wr ∧ ext W.heap.size σ.fm σi.fm ∧ (∀ q, (σ1.sl q).copy ≠ none → (σi.sl q).copy ≠ none) ∧ ∀ σ', storeR W.heap.size σi (at_ + i) (l.drop i) σ' → storeR W.heap.size σ1 at_ l σ') (fun v _ => l.length - (intOf v).toNat)
    case atStart => exact ⟨0, σ1, by omega, rfl, HSp.out, HK.out, HEx.out, fun _ h => h, fun _ h => h⟩
    case round =>
      obtain ⟨i, σi, hi, rfl, hsp, hkp, hex, hth, hst⟩ := hrel
      have HSi := Lib.hid hsp; have HKi := Lib.hid hkp; have HEi := Lib.hid hex; have HTi := Lib.hid hth; have HSt := Lib.hid hst
      clear hsp hkp hex hth hst
      by_cases hlt : i < l.length
      · have hlt' : i < (str l).size := hlt
        obtain ⟨hle, hcq⟩ := HCp.out (by omega)
        obtain ⟨p, hp⟩ : ∃ p, p = (at_ + i) / 64 := ⟨_, rfl⟩
        obtain ⟨k, hk⟩ : ∃ k, k = (at_ + i) % 64 := ⟨_, rfl⟩
        have hp64 : p < 64 := by omega
        have hk64 : k < 64 := by omega
        have hd0 : (((at_ : Nat) : Int) + (i : Nat)) / 64 = (p : Nat) := by omega
        have hd1 : (((at_ : Nat) : Int) + (i : Nat)) % 64 = (k : Nat) := by omega
        have hthere : (σi.sl p).copy ≠ none := HTi.out p (hcq p (by omega) (by omega))
        obtain ⟨f0, hf0⟩ := Option.ne_none_iff_exists'.1 hthere
        obtain ⟨bs, hbs⟩ := HSi.out.ok p hp64 f0 hf0
        obtain ⟨c, hc⟩ : ∃ c, c = l.getD i 0 := ⟨_, rfl⟩
        have hget : (str l)[i]'hlt' = c := (str_get _ _ _).trans hc.symm
        have HPk := Lib.hid (And.intro hp hk); have HC := Lib.hid hc; have HF0 := Lib.hid hf0; have HBs := Lib.hid hbs
        have hle' : at_ ≤ 4096 := by omega
        have hi' : i ≤ 4096 := by omega
        clear hcq hp hk hc hthere hf0 hbs
        go_wp2_with fail
        refine (change_any b S σi p f0 bs wr HSi.out hp64 HF0.out HBs.out).mono ?_
        rintro e w1 ⟨f, v, hf1, hf2, rfl, hsp1, hk1⟩
        have hbl := (HSi.out.fr.at_ f0 bs HBs.out).1
        obtain ⟨f1, hf1e⟩ : ∃ f1, f1 = if (σi.sl p).own = true then f0 else f := ⟨_, rfl⟩
        have hcopy1 : (upd σi.sl p (chgSl (σi.sl p) f) p).copy = some f1 := by rw [upd_same, chgSl_copy HF0.out, hf1e]
        have hfm1 : chgFm (σi.sl p) σi.fm f bs f1 = some bs := by rw [hf1e]; exact chg_fm HBs.out
        have hc4 := slot_copy hsp1 p hp64
        simp only [hcopy1, pf, Option.map_some] at hc4
        obtain ⟨hfc, hff⟩ := frame_cell hsp1 hfm1 k hk64
        have hsz := HKi.out.size
        have hput : putR W.heap.size σi (at_ + i) c ⟨σi.cn, upd σi.sl p (chgSl (σi.sl p) f), upd σi.fm f1 (some (bs.set k c))⟩ :=
          ⟨f, f0, bs, by omega, hf2, by rw [← HPk.out.1]; exact HF0.out, HBs.out, hbl, by rw [← HPk.out.1, ← HPk.out.2, hf1e]⟩
        have hmem := hsp1.toSpMem.put hfm1 k c
        have hfin : SpA ((w1.setCell ⟨f1, k, none⟩ (b8 c)).drew) b S ⟨σi.cn, upd σi.sl p (chgSl (σi.sl p) f), upd σi.fm f1 (some (bs.set k c))⟩ := by
          refine ⟨?_, fun q hq f' hf' => ?_, hsp1.cn0⟩
          · have := hmem.drew
            rw [hf1e] at this ⊢
            rw [← chg_upd (f := f) (bs := bs)]; exact this
          · by_cases e : f' = f1
            · subst e; exact ⟨_, upd_same _ _ _⟩
            · obtain ⟨cs, hcs⟩ := hsp1.ok q hq f' hf'
              refine ⟨cs, ?_⟩
              simp only at hcs ⊢
              rw [hf1e] at e ⊢
              rw [← chg_upd (f := f) (bs := bs), upd_ne _ _ _ _ e]; exact hcs
        have hkp2 : Keep (tch S b σ.fm) W ((w1.setCell ⟨f1, k, none⟩ (b8 c)).drew) := by
          refine ((HKi.out.step hk1 HEi.out).setCell (fun hlt => ?_) _).drew
          have h1 : chgFm (σi.sl p) σi.fm f bs f1 ≠ none := by rw [hfm1]; simp
          by_cases ho : (σi.sl p).own = true
          · rw [if_pos ho] at hf1e
            subst hf1e
            exact .inr (.inr (HEi.out _ hlt (by rw [HBs.out]; simp)))
          · rw [if_neg ho] at hf1e
            have : f1 < W.heap.size := hlt
            omega
        have HPut := Lib.hid hput; have HFin := Lib.hid hfin; have HKp2 := Lib.hid hkp2
        clear hput hfin hkp2 hmem hsp1 hk1 hf1e hcopy1 hfm1 hf2 hf1 hsz
        go_wp2
        go_region
        go_wp2
        go_roundw
        case rel =>
          refine ⟨i + 1, _, by omega, by go_num, HFin.out, HKp2.out, HEi.out.trans HPut.out.ext_ (Nat.le_refl _), fun q hq => HPut.out.there (HTi.out q hq), fun σ' hs => HSt.out σ' ?_⟩
          rw [List.drop_eq_getElem_cons hlt]
          refine ⟨_, ?_, by rw [show at_ + i + 1 = at_ + (i + 1) by omega]; exact hs⟩
          have e : l[i]'hlt = c := by rw [HC.out, List.getD_eq_getElem?_getD, List.getElem?_eq_getElem hlt]; rfl
          rw [e]; exact HPut.out
        case measure => simp [intOf]; omega
      · obtain rfl : i = l.length := by omega
        have HF := Lib.hid (show StoreP S b σ at_ l W (.returned (.int .i64 0)) wr from ⟨σ1, σi, true, rfl, HReach.out, by rw [if_pos rfl]; exact HSt.out _ (by rw [List.drop_length]; rfl), HEi.out, HSi.out, HKi.out⟩)
        go_wp2
        go_returns
        exact HF.out
end Go.Proofs.Ytlgnhnjnkhnoiaa
