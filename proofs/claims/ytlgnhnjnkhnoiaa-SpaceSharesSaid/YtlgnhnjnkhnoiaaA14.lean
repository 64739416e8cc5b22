/- Operations on a space whose pages are all known; Changes of a space without changes, by contracts. -/
import Derived.Test.YtlgnhnjnkhnoiaaA12
import Derived.Test.YtlgnhnjnkhnoiaaA13
import Derived.Test.YtlgnhnjnkhnoiaaKn
namespace Go.Proofs.Ytlgnhnjnkhnoiaa
open Go.RowKit
set_option maxRecDepth 100000
theorem needR.changed {S : Option Gsrc} {n0 : Nat} {σ σ' : ST} {p : Nat} (h : needR S n0 σ p σ') (q : Nat) : (σ'.sl q).changed = (σ.sl q).changed := by
  by_cases hq : q = p
  · subst hq
    obtain ⟨f, h1, h2, rfl⟩ := h
    cases hk : (σ.sl q).known
    · cases S with
      | none => simp only [needF_none hk, upd_same]
      | some g =>
        cases hs : (sayS g q).2
        · simp only [needF_no hk hs, upd_same]
        · simp only [needF_yes hk hs, upd_same]
    · simp only [needF_known hk]
  · rw [h.sl_ne hq]
theorem forkS.changed {S : Option Gsrc} {n0 : Nat} {σ : ST} : ∀ (k : Nat) (σ' : ST), forkS S n0 σ k σ' → ∀ q, (σ'.sl q).changed = (σ.sl q).changed := by
  intro k
  induction k with
  | zero => intro σ' h q; rw [show σ' = σ from h]
  | succ k ih =>
    rintro σ' ⟨σ1, σ2, h1, h2, rfl⟩ q
    have e : (σ2.sl q).changed = (σ.sl q).changed := (h2.changed q).trans (ih σ1 h1 q)
    rcases upd_cases σ2.sl k q { σ2.sl k with own := false } with ⟨rfl, e1⟩ | ⟨_, e1⟩
    · simp only [e1]; exact e
    · simp only [e1]; exact e
theorem forkS.known {S : Option Gsrc} {n0 : Nat} {σ : ST} : ∀ (k : Nat) (σ' : ST), forkS S n0 σ k σ' → ∀ q, q < k → (σ'.sl q).known = true := by
  intro k
  induction k with
  | zero => intro σ' h q hq; omega
  | succ k ih =>
    rintro σ' ⟨σ1, σ2, h1, h2, rfl⟩ q hq
    rcases upd_cases σ2.sl k q { σ2.sl k with own := false } with ⟨rfl, e1⟩ | ⟨hne, e1⟩
    · simp only [e1]; exact h2.known
    · simp only [e1]; rw [h2.sl_ne hne]; exact ih σ1 h1 q (by omega)
def Kno (σ : ST) : Prop := ∀ q, q < 64 → (σ.sl q).known = true
theorem reachR_known {S : Option Gsrc} {n0 : Nat} : ∀ (n : Nat) (σ : ST) (p : Nat) (σ' : ST) (ok : Bool), Kno σ → p + n ≤ 64 → reachR S n0 n σ p σ' ok → σ' = σ := by
  intro n
  induction n with
  | zero => intro σ p σ' ok _ _ h; exact h.1
  | succ n ih =>
    intro σ p σ' ok hk hp h
    obtain ⟨σ1, hn, h⟩ := h
    have := needR_known (hk p (by omega)) hn
    subst this
    rcases h with ⟨_, h, _⟩ | ⟨_, hr⟩
    · exact h
    · exact ih σ1 (p + 1) σ' ok hk (by omega) hr
theorem reachA_known {S : Option Gsrc} {n0 : Nat} {σ σ' : ST} {at_ n : Nat} {ok : Bool} (hk : Kno σ) (h : reachA S n0 σ at_ n σ' ok) : σ' = σ := by
  rcases h with ⟨_, h, _⟩ | ⟨_, _, h, _⟩ | ⟨h0, h1, h⟩
  · exact h
  · exact h
  · exact reachR_known _ _ _ _ _ hk (by omega) h
theorem allS_known {S : Option Gsrc} {n0 : Nat} {σ : ST} (hk : Kno σ) : ∀ (k : Nat) (σ' : ST), k ≤ 64 → allS S n0 σ k σ' → σ' = σ := by
  intro k
  induction k with
  | zero => intro σ' _ h; exact h
  | succ k ih =>
    rintro σ' hk6 ⟨σ1, h1, h2⟩
    have := ih σ1 (by omega) h1
    subst this
    exact needR_known (hk k (by omega)) h2
theorem kid_known (sl : SS) (cn : List (Int × Value)) (fm : FM) : Kno ⟨cn, kidS sl 64, fm⟩ := fun q hq => by
  show (kidS sl 64 q).known = true
  unfold kidS
  rw [if_pos hq]; rfl
theorem kid_same (sl : SS) (fm : FM) : eqA sl (kidS sl 64) fm = true := eqA_yes fun k hk => by
  unfold contP kidS
  rw [if_pos hk]; rfl
/-- An operation with an error changes nothing; all pages are known. -/
def OpP (S : Option Gsrc) (b : Nat) (σ : ST) (W : World) (e : Ending) (w' : World) : Prop :=
  ∃ (c : Int) (σ' : ST), e = .returned (.int .i64 c) ∧ (c = 0 ∨ (c ≠ 0 ∧ σ' = σ)) ∧ ext W.heap.size σ.fm σ'.fm ∧ SpA w' b S σ' ∧ Keep (tch S b σ.fm) W w'
theorem OpP.stay {S : Option Gsrc} {b : Nat} {σ : ST} {W : World} (h : SpA W b S σ) (c : Int) : OpP S b σ W (.returned (.int .i64 c)) W :=
  ⟨c, σ, rfl, by by_cases h : c = 0 <;> simp [h], ext.refl _ _, h, Keep.refl _ _⟩
theorem OpP.store {S : Option Gsrc} {b : Nat} {σ : ST} {W w' : World} {at_ : Nat} {l : List UInt8} {e : Ending} (hk : Kno σ) (h : StoreP S b σ at_ l W e w') : OpP S b σ W e w' := by
  obtain ⟨σ1, σ', ok, rfl, h1, h2, h3, h4, h5⟩ := h
  have := reachA_known hk h1
  subst this
  cases ok
  · exact ⟨23, σ', rfl, .inr ⟨by decide, h2⟩, h3, h4, h5⟩
  · exact ⟨0, σ', rfl, .inl rfl, h3, h4, h5⟩
section
variable (b : Nat) (S : Option Gsrc) (σ : ST) (W : World) (h : SpA W b S σ) (hk : Kno σ)
include h hk
theorem store_op (a : Int) (l : List UInt8) (ha : a ≤ 9223372036854775807) (hl : l.length ≤ 9223372036854775807) :
    Calls Try.prog 16 #[.pointer (some ⟨b, 0, none⟩), .int .i64 a, .string (str l)] W (OpP S b σ W) := by
  by_cases h0 : a < 0
  · refine (store_neg b a (str l) W h0).mono ?_
    rintro e w' ⟨rfl, rfl⟩
    exact OpP.stay h _
  · obtain ⟨n, rfl⟩ : ∃ n : Nat, a = n := ⟨a.toNat, by omega⟩
    exact (store_any b S σ n l W h (by omega) hl).mono fun e w' hp => OpP.store hk hp
theorem setword_op (a : Int) (x : Nat) (ha : a ≤ 9223372036854775807) (hx : x < 4294967296) :
    Calls Try.prog 18 #[.pointer (some ⟨b, 0, none⟩), .int .i64 a, .int .u32 (x : Nat)] W (OpP S b σ W) := by
  by_cases h0 : a < 0
  · refine (setword_neg b x a W h0 hx).mono ?_
    rintro e w' ⟨rfl, hb⟩
    exact ⟨23, σ, rfl, .inr ⟨by decide, rfl⟩, ext.refl _ _, h.after hb, Keep.of_below hb⟩
  · obtain ⟨n, rfl⟩ : ∃ n : Nat, a = n := ⟨a.toNat, by omega⟩
    refine (setword_any b S σ n x W h (by omega) hx).mono ?_
    rintro e w' ⟨W1, hb, hp⟩
    obtain ⟨c, σ', rfl, h1, h2, h3, h4⟩ := OpP.store hk hp
    exact ⟨c, σ', rfl, h1, fun i hi => h2 i (by have := hb.size; omega), h3, (Keep.of_below (S := tch S b σ.fm) hb).trans h4 fun _ _ hx => hx⟩
theorem map_op (p : Int) (l : List UInt8) :
    Calls Try.prog 19 #[.pointer (some ⟨b, 0, none⟩), .int .i64 p, .string (str l)] W (OpP S b σ W) := by
  by_cases h0 : p < 0 ∨ 64 ≤ p
  · refine (map_out b p (str l) W h0).mono ?_
    rintro e w' ⟨rfl, rfl⟩
    exact OpP.stay h _
  · obtain ⟨n, rfl⟩ : ∃ n : Nat, p = n := ⟨p.toNat, by omega⟩
    by_cases h1 : l.length ≤ 64
    · refine (map_any b S σ n l W h (by omega) h1).mono ?_
      rintro e w' ⟨σ', ok, rfl, ⟨σ1, hn, hr⟩, h3, h4, h5⟩
      have := needR_known (hk n (by omega)) hn
      subst this
      rcases hr with ⟨_, rfl, rfl⟩ | ⟨_, rfl, _⟩
      · exact ⟨13, σ', rfl, .inr ⟨by decide, rfl⟩, h3, h4, h5⟩
      · exact ⟨0, σ', rfl, .inl rfl, h3, h4, h5⟩
    · refine (map_long b n (str l) W (by omega) (by rw [str_size]; omega)).mono ?_
      rintro e w' ⟨rfl, rfl⟩
      exact OpP.stay h _
theorem unmap_op (p : Int) :
    Calls Try.prog 20 #[.pointer (some ⟨b, 0, none⟩), .int .i64 p] W (OpP S b σ W) := by
  by_cases h0 : p < 0 ∨ 64 ≤ p
  · refine (unmap_out b p W h0).mono ?_
    rintro e w' ⟨rfl, rfl⟩
    exact OpP.stay h _
  · obtain ⟨n, rfl⟩ : ∃ n : Nat, p = n := ⟨p.toNat, by omega⟩
    refine (unmap_in b S σ n W h (by omega)).mono ?_
    rintro e w' ⟨σ', ok, rfl, ⟨σ1, hn, hr⟩, h3, h4, h5⟩
    have := needR_known (hk n (by omega)) hn
    subst this
    rcases hr with ⟨_, rfl, rfl⟩ | ⟨_, rfl, _⟩
    · exact ⟨8, σ', rfl, .inr ⟨by decide, rfl⟩, h3, h4, h5⟩
    · exact ⟨0, σ', rfl, .inl rfl, h3, h4, h5⟩
end
set_option maxHeartbeats 1000000 in
theorem changes_none (b : Nat) (S : Option Gsrc) (σ : ST) (W : World) (h : SpA W b S σ) (hc : ∀ q, q < 64 → (σ.sl q).changed = false) :
    Calls Try.prog 21 #[.pointer (some ⟨b, 0, none⟩)] W fun e w' => e = .returned (.slice none 0 0) ∧ Below W.heap.size W w' := by
  have H := Lib.hid h
  have HC := Lib.hid hc
  have HB := Lib.hid (Below.refl W.heap.size W)
  clear h hc
  go_enter Try.func21, Try.ntmps21
  go_wp2
  go_loopw [3, 8] (fun v3 v wr => ∃ k : Nat, k ≤ 64 ∧ v = .int .i64 (k : Nat) ∧ v3 = .slice none 0 0 ∧ SpA wr b S σ ∧ Below W.heap.size W wr) (fun _ v _ => 64 - (intOf v).toNat)
  case atStart => exact ⟨0, by omega, rfl, rfl, H.out, HB.out⟩
  case round =>
    obtain ⟨k, hk, rfl, rfl, hsp, hb⟩ := hrel
    have HS := Lib.hid hsp; have HB := Lib.hid hb
    by_cases hlt : k < 64
    · have k2 : wr.cell? ⟨b, 1 + k * 5 + 2, none⟩ = some (.bool false) := (hsp.slot k 2 hlt (by decide)).trans (by rw [← HC.out k hlt]; rfl)
      clear hsp hb
      go_wp2
      go_roundw
      case rel => exact ⟨k + 1, by omega, by go_num, rfl, HS.out, HB.out⟩
      case measure => simp [intOf]; omega
    · obtain rfl : k = 64 := by omega
      clear hsp hb
      go_wp2
      go_returns
      exact ⟨rfl, HB.out⟩
end Go.Proofs.Ytlgnhnjnkhnoiaa
