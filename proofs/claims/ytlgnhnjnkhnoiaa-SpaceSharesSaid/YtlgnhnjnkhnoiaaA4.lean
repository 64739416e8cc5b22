/- What the operations on a space do, as relations; there, Has, reach and Load, by contracts. -/
import Derived.Test.YtlgnhnjnkhnoiaaA3
namespace Go.Proofs.Ytlgnhnjnkhnoiaa
open Go.RowKit
set_option maxRecDepth 100000
structure ST where
  cn : List (Int × Value)
  sl : SS
  fm : FM
abbrev SpA (W : World) (b : Nat) (S : Option Gsrc) (σ : ST) : Prop := SpAt W b S σ.cn σ.sl σ.fm
/-- What may change: the space's block, the source's count, the frames. -/
def tch (S : Option Gsrc) (b : Nat) (fm : FM) : Nat → Prop := fun i => i = b ∨ (∃ g, S = some g ∧ i = g.bc) ∨ fm i ≠ none
def ext (n0 : Nat) (fm fm' : FM) : Prop := ∀ i, i < n0 → fm' i ≠ none → fm i ≠ none
theorem ext.refl (n0 : Nat) (fm : FM) : ext n0 fm fm := fun _ _ h => h
theorem ext.trans {n0 n1 : Nat} {a b c : FM} (h : ext n0 a b) (k : ext n1 b c) (hn : n0 ≤ n1) : ext n0 a c := fun i hi hc => h i hi (k i (by omega) hc)
theorem Keep.step {S : Option Gsrc} {b : Nat} {fm fm1 : FM} {W W1 W2 : World} (h1 : Keep (tch S b fm) W W1) (h2 : Keep (tch S b fm1) W1 W2) (hf : ext W.heap.size fm fm1) : Keep (tch S b fm) W W2 :=
  h1.trans h2 fun i hi h => by
    rcases h with h | h | h
    · exact .inl h
    · exact .inr (.inl h)
    · exact .inr (.inr (hf i hi h))
def needR (S : Option Gsrc) (n0 : Nat) (σ : ST) (p : Nat) (σ' : ST) : Prop := ∃ f, n0 ≤ f ∧ σ.fm f = none ∧ σ' = ⟨needC S σ.sl σ.cn p, (needF S σ.sl σ.fm p f).1, (needF S σ.sl σ.fm p f).2⟩
theorem needR.mono {S : Option Gsrc} {n0 n1 : Nat} {σ σ' : ST} {p : Nat} (h : needR S n1 σ p σ') (hn : n0 ≤ n1) : needR S n0 σ p σ' := by
  obtain ⟨f, h1, h2, h3⟩ := h; exact ⟨f, by omega, h2, h3⟩
theorem needR.ext_ {S : Option Gsrc} {n0 : Nat} {σ σ' : ST} {p : Nat} (h : needR S n0 σ p σ') : ext n0 σ.fm σ'.fm := by
  obtain ⟨f, h1, h2, rfl⟩ := h
  intro i hi hc
  cases hk : (σ.sl p).known
  · cases S with
    | none => simp only [needF_none hk] at hc; exact hc
    | some g =>
      cases hs : (sayS g p).2
      · simp only [needF_no hk hs] at hc; exact hc
      · simp only [needF_yes hk hs] at hc
        rw [upd_ne _ _ _ _ (by omega)] at hc; exact hc
  · simp only [needF_known hk] at hc; exact hc
theorem need_ok (b : Nat) (S : Option Gsrc) (σ : ST) (p : Nat) (W : World) (h : SpA W b S σ) (hp : p < 64) :
    Calls Try.prog 33 #[.pointer (some ⟨b, 0, none⟩), .int .i64 (p : Nat)] W fun e w' => ∃ σ', needR S W.heap.size σ p σ' ∧ e = .returned (.pointer (some ⟨b, 1 + p * 5, none⟩)) ∧ SpA w' b S σ' ∧ Keep (tch S b σ.fm) W w' := by
  refine (need_any b S σ.cn σ.sl σ.fm p W h hp).mono ?_
  rintro e w' ⟨f, h1, h2, h3, h4, h5⟩
  refine ⟨_, ⟨f, h1, h2, rfl⟩, h3, h4, h5.mono fun i _ hi => ?_⟩
  rcases hi with hi | hi
  · exact .inl hi
  · exact .inr (.inl hi)
/-- The pages from p on, n of them, are needed, up to the first that is not there. -/
def reachR (S : Option Gsrc) (n0 : Nat) : Nat → ST → Nat → ST → Bool → Prop
  | 0, σ, _, σ', ok => σ' = σ ∧ ok = true
  | n + 1, σ, p, σ', ok => ∃ σ1, needR S n0 σ p σ1 ∧ ((σ1.sl p).copy = none ∧ σ' = σ1 ∧ ok = false ∨ (σ1.sl p).copy ≠ none ∧ reachR S n0 n σ1 (p + 1) σ' ok)
def reachA (S : Option Gsrc) (n0 : Nat) (σ : ST) (at_ n : Nat) (σ' : ST) (ok : Bool) : Prop :=
  (n = 0 ∧ σ' = σ ∧ ok = true) ∨ (n ≠ 0 ∧ (4096 ≤ at_ ∨ 4096 < at_ + n) ∧ σ' = σ ∧ ok = false) ∨ (n ≠ 0 ∧ at_ + n ≤ 4096 ∧ reachR S n0 ((at_ + n - 1) / 64 + 1 - at_ / 64) σ (at_ / 64) σ' ok)
theorem slot_copy {W : World} {b : Nat} {S : Option Gsrc} {σ : ST} (h : SpA W b S σ) (p : Nat) (hp : p < 64) : W.cell? ⟨b, 1 + p * 5 + 4, none⟩ = some (pf (σ.sl p).copy) := h.slot p 4 hp (by decide)
theorem eql_frame (w : World) (a : Addr) : (binOp .eql 82 (.pointer (some a)) (.pointer none)).run Try.prog w = .ok (.bool false) w := by kernel_rfl
def ReachP (S : Option Gsrc) (b : Nat) (σ : ST) (at_ n : Nat) (W : World) (e : Ending) (w' : World) : Prop :=
  ∃ σ' ok, e = .returned (.int .i64 (if ok = true then 0 else 23)) ∧ reachA S W.heap.size σ at_ n σ' ok ∧ ext W.heap.size σ.fm σ'.fm ∧ SpA w' b S σ' ∧ Keep (tch S b σ.fm) W w'
set_option maxHeartbeats 1000000 in
theorem reach_any (b : Nat) (S : Option Gsrc) (σ : ST) (at_ n : Nat) (W : World) (h : SpA W b S σ) (ha : at_ ≤ 9223372036854775807) (hn : n ≤ 9223372036854775807) :
    Calls Try.prog 34 #[.pointer (some ⟨b, 0, none⟩), .int .i64 (at_ : Nat), .int .i64 (n : Nat)] W (ReachP S b σ at_ n W) := by
  by_cases h0 : n = 0
  · have e0 : (((n : Nat) : Int) == 0) = true := by simp [h0]
    have HF := Lib.hid (show ReachP S b σ at_ n W (.returned (.int .i64 0)) W from ⟨σ, true, rfl, .inl ⟨h0, rfl, rfl⟩, ext.refl _ _, h, Keep.refl _ _⟩)
    clear h h0
    go_enter Try.func34, Try.ntmps34
    go_wp2
    go_returns
    exact HF.out
  have e0 : (((n : Nat) : Int) == 0) = false := by simp [h0]
  have e1 : decide (((at_ : Nat) : Int) < 0) = false := by simp
  by_cases h1 : 4096 ≤ at_
  · have e2 : decide ((4096 : Int) ≤ (at_ : Nat)) = true := by simp; omega
    have HF := Lib.hid (show ReachP S b σ at_ n W (.returned (.int .i64 23)) W from ⟨σ, false, rfl, .inr (.inl ⟨h0, .inl h1, rfl, rfl⟩), ext.refl _ _, h, Keep.refl _ _⟩)
    clear h h0 h1
    go_enter Try.func34, Try.ntmps34
    go_wp2
    go_returns
    exact HF.out
  have e2 : decide ((4096 : Int) ≤ (at_ : Nat)) = false := by simp; omega
  by_cases h2 : 4096 < at_ + n
  · have e3 : decide ((4096 : Int) - (at_ : Nat) < (n : Nat)) = true := by simp; omega
    have HF := Lib.hid (show ReachP S b σ at_ n W (.returned (.int .i64 23)) W from ⟨σ, false, rfl, .inr (.inl ⟨h0, .inr h2, rfl, rfl⟩), ext.refl _ _, h, Keep.refl _ _⟩)
    clear h h0 h2
    go_enter Try.func34, Try.ntmps34
    go_wp2
    go_returns
    exact HF.out
  have e3 : decide ((4096 : Int) - (at_ : Nat) < (n : Nat)) = false := by simp; omega
  obtain ⟨p0, hp0⟩ : ∃ p0, p0 = at_ / 64 := ⟨_, rfl⟩
  obtain ⟨p1, hp1⟩ : ∃ p1, p1 = (at_ + n - 1) / 64 := ⟨_, rfl⟩
  have hd0 : ((at_ : Nat) : Int) / 64 = (p0 : Nat) := by omega
  have hd1 : (((at_ : Nat) : Int) + (n : Nat) - 1) / 64 = (p1 : Nat) := by omega
  have hp : p0 ≤ p1 ∧ p1 < 64 := by omega
  have HA : Hid (∀ σ' ok, reachR S W.heap.size (p1 + 1 - p0) σ p0 σ' ok → reachA S W.heap.size σ at_ n σ' ok) := Lib.hid fun σ' ok hr => .inr (.inr ⟨h0, by omega, by rw [← hp0, ← hp1]; exact hr⟩)
  have H := Lib.hid h
  have hn' : n ≤ 4096 := by omega
  have ha' : at_ ≤ 4096 := by omega
  clear h h0 h1 h2 hp0 hp1 ha hn
  have eqf := eql_frame
  go_enter Try.func34, Try.ntmps34
  go_wp2
  go_loopw [7] (fun v wr => ∃ q σq, p0 ≤ q ∧ q ≤ p1 + 1 ∧ v = .int .i64 (q : Nat) ∧ SpA wr b S σq ∧ Keep (tch S b σ.fm) W wr ∧ ext W.heap.size σ.fm σq.fm ∧ ∀ σ' ok, reachR S W.heap.size (p1 + 1 - q) σq q σ' ok → reachR S W.heap.size (p1 + 1 - p0) σ p0 σ' ok) (fun v _ => p1 + 1 - (intOf v).toNat)
  case atStart => exact ⟨p0, σ, Nat.le_refl _, by omega, rfl, H.out, Keep.refl _ _, ext.refl _ _, fun _ _ h => h⟩
  case round =>
    obtain ⟨q, σq, hq1, hq2, rfl, hsp, hkp, hex, hre⟩ := hrel
    have HSp := Lib.hid hsp; have HKp := Lib.hid hkp; have HEx := Lib.hid hex; have HRe := Lib.hid hre
    clear hsp hkp hex hre
    by_cases hlt : q ≤ p1
    · have e4 : decide ((q : Int) ≤ (p1 : Int)) = true := by simp; omega
      go_wp2_with fail
      refine (need_ok b S σq q wr HSp.out (by omega)).mono ?_
      rintro e w1 ⟨σ1, hn1, rfl, hsp1, hk1⟩
      have hsz := HKp.out.size
      have hk01 := HKp.out.step hk1 HEx.out
      have hex1 := HEx.out.trans hn1.ext_ hsz
      have hc := slot_copy hsp1 q (by omega)
      have hn1' := hn1.mono hsz
      have HSp1 := Lib.hid hsp1; have HK1 := Lib.hid hk01; have HE1 := Lib.hid hex1; have HN1 := Lib.hid hn1'
      clear hsp1 hk1 hk01 hex1 hn1 hn1' hsz
      cases hcp : (σ1.sl q).copy with
      | none =>
        rw [hcp] at hc
        have HF := Lib.hid (show ReachP S b σ at_ n W (.returned (.int .i64 23)) w1 from ⟨σ1, false, rfl, HA.out _ _ (HRe.out _ _ (by rw [show p1 + 1 - q = (p1 - q) + 1 by omega]; exact ⟨σ1, HN1.out, .inl ⟨hcp, rfl, rfl⟩⟩)), HE1.out, HSp1.out, HK1.out⟩)
        clear hcp
        simp only [pf, Option.map_none] at hc
        go_wp2
        go_returns
        exact HF.out
      | some f =>
        rw [hcp] at hc
        have HF : Hid (∀ σ' ok, reachR S W.heap.size (p1 + 1 - (q + 1)) σ1 (q + 1) σ' ok → reachR S W.heap.size (p1 + 1 - p0) σ p0 σ' ok) := Lib.hid fun σ' ok hr => HRe.out _ _ (by rw [show p1 + 1 - q = (p1 + 1 - (q + 1)) + 1 by omega]; exact ⟨σ1, HN1.out, .inr ⟨by rw [hcp]; simp, hr⟩⟩)
        clear hcp
        simp only [pf, Option.map_some] at hc
        go_wp2
        go_roundw
        case rel => exact ⟨q + 1, σ1, by omega, by omega, by go_num, HSp1.out, HK1.out, HE1.out, HF.out⟩
        case measure => simp [intOf]; omega
    · obtain rfl : q = p1 + 1 := by omega
      have e4 : decide (((p1 + 1 : Nat) : Int) ≤ (p1 : Int)) = false := by simp; omega
      have HF := Lib.hid (show ReachP S b σ at_ n W (.returned (.int .i64 0)) wr from ⟨σq, true, rfl, HA.out _ _ (HRe.out _ _ (by rw [Nat.sub_self]; exact ⟨rfl, rfl⟩)), HEx.out, HSp.out, HKp.out⟩)
      go_wp2
      go_returns
      exact HF.out
end Go.Proofs.Ytlgnhnjnkhnoiaa
