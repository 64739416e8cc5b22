/- known, by a contract. -/
import Derived.Test.YtlgnhnjnkhnoiaaA8
namespace Go.Proofs.Ytlgnhnjnkhnoiaa
open Go.RowKit
set_option maxRecDepth 100000
theorem needR_known {S : Option Gsrc} {n0 : Nat} {σ σ' : ST} {p : Nat} (hk : (σ.sl p).known = true) (h : needR S n0 σ p σ') : σ' = σ := by
  obtain ⟨f, _, _, rfl⟩ := h
  rw [needC_known hk, needF_known hk]
theorem reachR_there {S : Option Gsrc} {n0 : Nat} : ∀ (n : Nat) (σ : ST) (p : Nat) (σ' : ST) (ok : Bool), (∀ q, p ≤ q → q < p + n → (σ.sl q).known = true ∧ (σ.sl q).copy ≠ none) → reachR S n0 n σ p σ' ok → σ' = σ ∧ ok = true := by
  intro n
  induction n with
  | zero => intro σ p σ' ok _ h; exact h
  | succ n ih =>
    intro σ p σ' ok hq h
    obtain ⟨σ1, hn, h⟩ := h
    obtain ⟨h1, h2⟩ := hq p (Nat.le_refl _) (by omega)
    have := needR_known h1 hn
    subst this
    rcases h with ⟨hc, _⟩ | ⟨_, hr⟩
    · exact absurd hc h2
    · exact ih σ1 (p + 1) σ' ok (fun q a b => hq q (by omega) (by omega)) hr
theorem putR_own {n0 : Nat} {σ σ' : ST} {a f0 : Nat} {c : UInt8} {bs : List UInt8} (ho : (σ.sl (a / 64)).own = true) (hch : (σ.sl (a / 64)).changed = true) (hc : (σ.sl (a / 64)).copy = some f0) (hf : σ.fm f0 = some bs) (h : putR n0 σ a c σ') :
    σ' = ⟨σ.cn, σ.sl, upd σ.fm f0 (some (bs.set (a % 64) c))⟩ := by
  obtain ⟨f, f0', bs', _, _, h3, h4, _, rfl⟩ := h
  rw [hc] at h3
  injection h3 with h3
  subst h3
  rw [hf] at h4
  injection h4 with h4
  subst h4
  rw [if_pos ho]
  have : upd σ.sl (a / 64) (chgSl (σ.sl (a / 64)) f) = σ.sl := by
    unfold chgSl
    rw [if_pos ho]
    have e : ({ σ.sl (a / 64) with changed := true } : Sl) = σ.sl (a / 64) := by
      cases hs : σ.sl (a / 64) with
      | mk k1 k2 k3 k4 k5 => rw [hs] at hch; simp only at hch; subst hch; rfl
    rw [e, upd_self]
  rw [this]
def σ0 : ST := ⟨[], fun _ => Sl.zero, fun _ => none⟩
def sM (f : Nat) : Sl := ⟨true, false, true, true, some f⟩
def K1 : ST := ⟨[], upd (fun _ => Sl.zero) 0 ⟨true, false, false, false, none⟩, fun _ => none⟩
def K2 (f : Nat) : ST := ⟨[], upd (fun _ => Sl.zero) 0 (sM f), upd (fun _ => none) f (some (fillL [97, 98]))⟩
def K3 (f g : Nat) (A B : List UInt8) : ST := ⟨[], upd (upd (fun _ => Sl.zero) 0 (sM f)) 1 (sM g), upd (upd (fun _ => none) f (some A)) g (some B)⟩
theorem kn1 {n0 : Nat} {σ' : ST} {ok : Bool} (h : reachA none n0 σ0 0 1 σ' ok) : σ' = K1 ∧ ok = false := by
  rcases h with ⟨h, _⟩ | ⟨_, h, _⟩ | ⟨_, _, h⟩
  · cases h
  · omega
  · obtain ⟨σ1, ⟨f, _, _, rfl⟩, h⟩ := h
    rw [needC_none, needF_none rfl] at h
    rcases h with ⟨_, h1, h2⟩ | ⟨h, _⟩
    · exact ⟨h1, h2⟩
    · exact absurd rfl h
theorem kn2 {n0 : Nat} {σ' : ST} {ok : Bool} (h : mapR none n0 K1 0 [97, 98] σ' ok) : ok = true ∧ ∃ f, σ' = K2 f := by
  obtain ⟨σ1, hn, h⟩ := h
  have := needR_known (by rfl) hn
  subst this
  rcases h with ⟨h, _⟩ | ⟨_, h1, f, _, _, rfl⟩
  · exact absurd rfl h
  · refine ⟨h1, f, ?_⟩
    simp only [K1, K2, upd_upd, upd_same, sM]
theorem kn3 {n0 f : Nat} {σ' : ST} {ok : Bool} (h : mapR none n0 (K2 f) 1 [] σ' ok) : ok = true ∧ ∃ g, g ≠ f ∧ σ' = K3 f g (fillL [97, 98]) (fillL []) := by
  obtain ⟨σ1, ⟨f', _, _, rfl⟩, h⟩ := h
  have hk : ((K2 f).sl 1).known = false := rfl
  rw [needC_none, needF_none hk] at h
  rcases h with ⟨h, _⟩ | ⟨_, h1, g, _, hg, rfl⟩
  · simp only [upd_same] at h; exact absurd rfl h
  · refine ⟨h1, g, fun e => ?_, ?_⟩
    · subst e; simp only [K2, upd_same] at hg; cases hg
    · simp only [K2, K3, upd_upd, upd_same, sM]
      congr 1
theorem K3_0 (f g : Nat) (A B : List UInt8) : (K3 f g A B).sl 0 = sM f := rfl
theorem K3_1 (f g : Nat) (A B : List UInt8) : (K3 f g A B).sl 1 = sM g := rfl
theorem kn4 {n0 f g at_ n : Nat} {A B : List UInt8} {σ' : ST} {ok : Bool} (h0 : n ≠ 0) (h1 : at_ + n ≤ 128) (h : reachA none n0 (K3 f g A B) at_ n σ' ok) : σ' = K3 f g A B ∧ ok = true := by
  rcases h with ⟨h, _⟩ | ⟨_, h, _⟩ | ⟨_, _, h⟩
  · exact absurd h h0
  · omega
  · refine reachR_there _ _ _ _ _ (fun q q1 q2 => ?_) h
    rcases (show q = 0 ∨ q = 1 by omega) with rfl | rfl
    · rw [K3_0]; exact ⟨rfl, by simp [sM]⟩
    · rw [K3_1]; exact ⟨rfl, by simp [sM]⟩
theorem K3_fm0 {f g : Nat} (h : g ≠ f) (A B : List UInt8) : (K3 f g A B).fm f = some A := by
  simp only [K3]; rw [upd_ne _ _ _ _ (fun e => h e.symm), upd_same]
theorem K3_fm1 (f g : Nat) (A B : List UInt8) : (K3 f g A B).fm g = some B := by simp only [K3, upd_same]
theorem K3_put0 {f g : Nat} (h : g ≠ f) (A B A' : List UInt8) : (⟨(K3 f g A B).cn, (K3 f g A B).sl, upd (K3 f g A B).fm f (some A')⟩ : ST) = K3 f g A' B := by
  simp only [K3]
  congr 1
  funext q
  unfold upd
  by_cases h1 : q = f
  · subst h1; rw [if_pos rfl, if_neg (fun e => h e.symm), if_pos rfl]
  · rw [if_neg h1]
    by_cases h2 : q = g
    · rw [if_pos h2, if_pos h2]
    · rw [if_neg h2, if_neg h2, if_neg h1, if_neg h1]
theorem K3_put1 (f g : Nat) (A B B' : List UInt8) : (⟨(K3 f g A B).cn, (K3 f g A B).sl, upd (K3 f g A B).fm g (some B')⟩ : ST) = K3 f g A B' := by
  simp only [K3, upd_upd]
theorem kn5 {n0 f g : Nat} (hg : g ≠ f) {σ' : ST} (h : storeR n0 (K3 f g (fillL [97, 98]) (fillL [])) 62 [120, 121, 122] σ') : σ' = K3 f g (((fillL [97, 98]).set 62 120).set 63 121) ((fillL []).set 0 122) := by
  obtain ⟨σ1, h1, σ2, h2, σ3, h3, rfl⟩ := h
  have e1 := putR_own (f0 := f) (bs := fillL [97, 98]) rfl rfl rfl (K3_fm0 hg _ _) h1
  rw [K3_put0 hg] at e1
  subst e1
  have e2 := putR_own (f0 := f) rfl rfl rfl (K3_fm0 hg _ _) h2
  rw [K3_put0 hg] at e2
  subst e2
  have e3 := putR_own (f0 := g) rfl rfl rfl (K3_fm1 _ _ _ _) h3
  rw [K3_put1] at e3
  exact e3
theorem kn6 {f g : Nat} (hg : g ≠ f) : ((List.range 5).map fun i => byteAt (K3 f g (((fillL [97, 98]).set 62 120).set 63 121) ((fillL []).set 0 122)) (61 + i)) = [0, 120, 121, 122, 0] := by
  have b0 : ∀ a, a < 64 → byteAt (K3 f g (((fillL [97, 98]).set 62 120).set 63 121) ((fillL []).set 0 122)) a = (((fillL [97, 98]).set 62 120).set 63 121).getD (a % 64) 0 := fun a ha =>
    byteAt_eq (f := f) (by rw [show a / 64 = 0 by omega]; rfl) (K3_fm0 hg _ _)
  have b1 : ∀ a, 64 ≤ a → a < 128 → byteAt (K3 f g (((fillL [97, 98]).set 62 120).set 63 121) ((fillL []).set 0 122)) a = ((fillL []).set 0 122).getD (a % 64) 0 := fun a h1 h2 =>
    byteAt_eq (f := g) (by rw [show a / 64 = 1 by omega]; rfl) (K3_fm1 _ _ _ _)
  simp only [List.range, List.range.loop, List.map_cons, List.map_nil]
  rw [b0 (61 + 0) (by omega), b0 (61 + 1) (by omega), b0 (61 + 2) (by omega), b1 (61 + 3) (by omega) (by omega), b1 (61 + 4) (by omega) (by omega)]
  decide
theorem new_sp (W : World) : SpA (W.alloc (.cells (spc .nilFunc fun _ => Sl.zero) 87)) W.heap.size none σ0 :=
  ⟨⟨Blk.new W 87 _, (fun g hg => by cases hg), ⟨(fun f bs hf => by cases hf)⟩⟩, (fun p hp f hf => by cases hf), fun h => absurd rfl h⟩
theorem keep_below {S : Option Gsrc} {b : Nat} {fm : FM} {W0 W W' : World} (h : Keep (tch S b fm) W W') (h0 : Below W0.heap.size W0 W) (hs : ∀ i, i < W0.heap.size → ¬ tch S b fm i) : Below W0.heap.size W0 W' :=
  h0.trans (h.below h0.size hs)
set_option maxHeartbeats 1000000 in
theorem known_any (W : World) : Calls Try.prog 9 #[] W fun e w' => e = .returned (.bool true) ∧ Below W.heap.size W w' := by
  have c0 : (⟨#[97, 98]⟩ : ByteArray) = str [97, 98] := rfl
  have c2 : (⟨#[120, 121, 122]⟩ : ByteArray) = str [120, 121, 122] := rfl
  have HS0 := Lib.hid (new_sp W)
  have HB0 := Lib.hid (show Below W.heap.size W (W.alloc (.cells (spc .nilFunc fun _ => Sl.zero) 87)) from (Below.refl _ _).alloc (Nat.le_refl _) _)
  have HC := Lib.hid (And.intro c0 c2)
  clear c0 c2
  go_enter Try.func9, Try.ntmps9
  go_wp2_with fail
  refine (new_nil W).mono ?_
  rintro e W1 ⟨rfl, rfl⟩
  generalize W.alloc (.cells (spc .nilFunc fun _ => Sl.zero) 87) = W1 at HS0 HB0 ⊢
  generalize hb : W.heap.size = b at HS0 ⊢
  have HHb := Lib.hid hb; clear hb
  go_wp2_with fail
  refine (load_any b none σ0 0 1 W1 HS0.out (by decide) (by decide)).mono ?_
  rintro e W2 ⟨σ1, ok, rfl, hr, hex, hsp, hk⟩
  obtain ⟨rfl, rfl⟩ := kn1 hr
  have HS1 := Lib.hid hsp; have HK1 := Lib.hid hk; have HE1 := Lib.hid hex
  clear hr hex hsp hk
  simp only [Bool.false_eq_true, if_false]
  go_wp2_with fail
  refine (map_any b none K1 0 [97, 98] W2 HS1.out (by decide) (by decide)).mono ?_
  rintro e W3 ⟨σ2, ok, rfl, hr, hex, hsp, hk⟩
  obtain ⟨rfl, f, rfl⟩ := kn2 hr
  have HS2 := Lib.hid hsp; have HK2 := Lib.hid (HK1.out.step hk HE1.out); have HE2 := Lib.hid (HE1.out.trans hex HK1.out.size)
  clear hr hex hsp hk
  simp only [if_true]
  go_wp2_with fail
  refine (map_any b none (K2 f) 1 [] W3 HS2.out (by decide) (by decide)).mono ?_
  rintro e W4 ⟨σ3, ok, rfl, hr, hex, hsp, hk⟩
  obtain ⟨rfl, g, hg, rfl⟩ := kn3 hr
  have HS3 := Lib.hid hsp; have HK3 := Lib.hid (HK2.out.step hk HE2.out); have HE3 := Lib.hid (HE2.out.trans hex HK2.out.size); have HGf := Lib.hid hg
  clear hr hex hsp hk hg
  simp only [if_true]
  go_wp2_with fail
  refine (store_any b none (K3 f g (fillL [97, 98]) (fillL [])) 62 [120, 121, 122] W4 HS3.out (by decide) (by decide)).mono ?_
  rintro e W5 ⟨σ4, σ5, ok, rfl, hr, hst, hex, hsp, hk⟩
  obtain ⟨rfl, rfl⟩ := kn4 (by decide) (by decide) hr
  rw [if_pos rfl] at hst
  have e5 := kn5 HGf.out hst
  subst e5
  have HS5 := Lib.hid hsp; have HK5 := Lib.hid (HK3.out.step hk HE3.out); have HE5 := Lib.hid (HE3.out.trans hex HK3.out.size)
  clear hr hex hsp hk hst
  simp only [if_true]
  go_wp2_with fail
  refine (load_any b none _ 61 5 W5 HS5.out (by decide) (by decide)).mono ?_
  rintro e W6 ⟨σ6, ok, rfl, hr, hex, hsp, hk⟩
  obtain ⟨rfl, rfl⟩ := kn4 (by decide) (by decide) hr
  have HK6 := Lib.hid (HK5.out.step hk HE5.out)
  have hby := kn6 HGf.out
  clear hr hex hsp hk
  rw [if_pos rfl, if_pos rfl, hby]
  clear hby
  have c5 : (str [0, 120, 121, 122, 0]).toList = [0, 120, 121, 122, 0] := str_toList _
  have HF := Lib.hid (keep_below (W0 := W) HK6.out HB0.out (fun i hi h => by
    rcases h with h | ⟨g', h, _⟩ | h
    · have := HHb.out; omega
    · cases h
    · exact h rfl))
  go_wp2
  go_returns
  exact ⟨rfl, HF.out⟩
end Go.Proofs.Ytlgnhnjnkhnoiaa
