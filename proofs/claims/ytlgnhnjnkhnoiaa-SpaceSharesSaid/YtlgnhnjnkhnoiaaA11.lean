/- Pages, by a contract. -/
import Derived.Test.YtlgnhnjnkhnoiaaA10
namespace Go.Proofs.Ytlgnhnjnkhnoiaa
open Go.RowKit
set_option maxRecDepth 100000
def LI : Lay Int := { size := 1, enc := fun x => [.int .i64 x], pos := by decide, len := fun _ => rfl, one := fun a u hu => by simp at hu; subst hu; rfl }
theorem ElI : Elem Try.prog 55 3 LI.size 8 := Elem.of (z := .int .i64 0) Try.underlying55 (by kernel_rfl) rfl
def allS (S : Option Gsrc) (n0 : Nat) (σ : ST) : Nat → ST → Prop
  | 0, σ' => σ' = σ
  | k + 1, σ' => ∃ σ1, allS S n0 σ k σ1 ∧ needR S n0 σ1 k σ'
def pgL (sl : SS) (k : Nat) : List Int := ((List.range k).filter fun p => (sl p).copy.isSome).map Int.ofNat
theorem pgL_len (sl : SS) (k : Nat) : (pgL sl k).length ≤ k := by
  unfold pgL
  rw [List.length_map]
  have := List.length_filter_le (fun p => (sl p).copy.isSome) (List.range k)
  simpa using this
theorem pgL_step (sl sl' : SS) (k : Nat) (h : ∀ q, q < k → sl' q = sl q) : pgL sl' (k + 1) = pgL sl k ++ if (sl' k).copy.isSome = true then [(k : Int)] else [] := by
  unfold pgL
  rw [List.range_succ, List.filter_append, List.map_append]
  congr 1
  · congr 1
    apply List.filter_congr
    intro q hq
    rw [h q (by simpa using hq)]
  · by_cases hk : (sl' k).copy.isSome = true
    · rw [if_pos hk]; simp [hk]
    · rw [if_neg hk]; simp [hk]
theorem own_keep {α : Type} {L : Lay α} {W W' : World} {b base : Nat} {S : Option Gsrc} {σ : ST} {t : TypeId} {v : Value} {l : List α} (h : Own W base t L v l) (hs : SpA W b S σ) (hk : Keep (tch S b σ.fm) W W') (h1 : t ≠ 87) (h2 : t ≠ 92) : Own W' base t L v l := by
  refine h.kept hk fun i hi ht => ?_
  rcases ht with e | ⟨g, hg, e⟩ | e
  · subst e; exact (hs.blk.own_ne h h1) hi.symm
  · subst e
    rcases h.2 with ⟨rfl, _⟩ | ⟨g', cap, cur, rfl, _, hh, _⟩
    · simp [Value.ownBlock] at hi
    · have : g' = g.bc := by simpa [Value.ownBlock] using hi
      subst this
      obtain ⟨es, clk, hb, _⟩ := (hs.src g hg).ic
      rw [hb] at hh; cases hh
  · obtain ⟨bs, hbs⟩ := Option.ne_none_iff_exists'.1 e
    exact ((hs.fr.at_ i bs hbs).2.own_ne h h2) hi.symm
def PagesP (S : Option Gsrc) (b : Nat) (σ : ST) (W : World) (e : Ending) (w' : World) : Prop :=
  ∃ σ' A n c, e = .returned (.slice A n c) ∧ n = (pgL σ'.sl 64).length ∧ allS S W.heap.size σ 64 σ' ∧ ext W.heap.size σ.fm σ'.fm ∧ Own w' W.heap.size 3 LI (.slice A n c) (pgL σ'.sl 64) ∧ SpA w' b S σ' ∧ Keep (tch S b σ.fm) W w'
set_option maxHeartbeats 1000000 in
theorem pages_any (b : Nat) (S : Option Gsrc) (σ : ST) (W : World) (h : SpA W b S σ) : Calls Try.prog 32 #[.pointer (some ⟨b, 0, none⟩)] W (PagesP S b σ W) := by
  have H := Lib.hid h
  clear h
  go_enter Try.func32, Try.ntmps32
  go_wp2
  go_loopw [3, 5] (fun v3 v wr => ∃ k σk A n c, k ≤ 64 ∧ v = .int .i64 (k : Nat) ∧ v3 = .slice A n c ∧ n = (pgL σk.sl k).length ∧ allS S W.heap.size σ k σk ∧ ext W.heap.size σ.fm σk.fm ∧ Own wr W.heap.size 3 LI (.slice A n c) (pgL σk.sl k) ∧ SpA wr b S σk ∧ Keep (tch S b σ.fm) W wr) (fun _ v _ => 64 - (intOf v).toNat)
  case atStart => exact ⟨0, σ, none, 0, 0, by omega, rfl, rfl, rfl, rfl, ext.refl _ _, Own.nil_, H.out, Keep.refl _ _⟩
  case round =>
    obtain ⟨k, σk, A, n, c, hk, rfl, rfl, hn, hal, hex, hown, hsp, hkp⟩ := hrel
    have hnk : n ≤ 64 := by have := pgL_len σk.sl k; omega
    have HN := Lib.hid hn; have HA := Lib.hid hal; have HE := Lib.hid hex; have HO := Lib.hid hown; have HS := Lib.hid hsp; have HK := Lib.hid hkp
    clear hn hal hex hown hsp hkp
    by_cases hlt : k < 64
    · go_wp2_with fail
      refine (has_in b S σk k wr HS.out hlt).mono ?_
      rintro e w1 ⟨σ1, rfl, hn1, hsp1, hk1⟩
      have hsz := HK.out.size
      have ho1 := own_keep HO.out HS.out hk1 (by decide) (by decide)
      have hkp1 := HK.out.step hk1 HE.out
      have hst := pgL_step σk.sl σ1.sl k (fun q hq => hn1.sl_ne (by omega))
      have hn1' := hn1.mono hsz
      have hsz1 := hk1.size
      have HN1 := Lib.hid hn1'; have HS1 := Lib.hid hsp1; have HO1 := Lib.hid ho1; have HK1 := Lib.hid hkp1; have HE1 := Lib.hid (HE.out.trans hn1'.ext_ (Nat.le_refl _))
      clear hn1 hn1' hsp1 hk1 ho1 hkp1
      cases hcs : (σ1.sl k).copy.isSome
      · rw [hcs] at hst
        simp only [Bool.false_eq_true, if_false, List.append_nil] at hst
        have HSt := Lib.hid hst
        clear hst hcs hsz hsz1
        go_wp2
        go_roundw
        case rel => exact ⟨k + 1, σ1, A, n, c, by omega, by go_num, rfl, by rw [HSt.out]; exact HN.out, ⟨σk, HA.out, HN1.out⟩, HE1.out, by rw [HSt.out]; exact HO1.out, HS1.out, HK1.out⟩
        case measure => simp [intOf]; omega
      · rw [hcs] at hst
        simp only [if_true] at hst
        have HSt := Lib.hid hst
        have hpl : (pgL σk.sl k).length ≤ 64 := by have := HN.out; omega
        have HSz := Lib.hid (And.intro hsz hsz1)
        clear hst hcs hsz hsz1
        have ho1 := HO1.out
        go_wp2_with (at_builtin; refine ap_one _ rfl _ _ ElI rfl W.heap.size _ (pgL σk.sl k) rfl (ho1.alloc _) ⟨w1.heap.size, 0, none⟩ 1 (k : Int) rfl ?c1 ?c2 ?c3 ?c4 ?_)
        case c1 => exact new_at (by simp [LI])
        case c2 => omega
        case c3 => omega
        case c4 => have := HSz.out; simp; omega
        intro A' c' w2 hown' hg hor _ _
        have hlen2 : (pgL σk.sl k).length + 1 = (pgL σ1.sl (k + 1)).length := by rw [HSt.out]; simp
        have hbel : Keep (fun i => some i = (Value.slice A n c).ownBlock) w1 w2 := ((Keep.refl _ w1).alloc (.cells #[.int .i64 (k : Nat)] 3)).grown hg (fun i e _ => e.symm)
        have hsp2 : SpA w2 b S σ1 := by
          have hs1 := HS1.out
          have hnb : ∀ t cs g, Blk w1 g t cs → t ≠ 3 → Blk w2 g t cs := fun t cs g hB ht => hB.kept hbel (fun e => (hB.own_ne ho1 (fun e => ht e.symm)) e)
          have hnm : ∀ g l, IM w1 g l → IM w2 g l := fun g l him => him.of_block (hbel.block g him.lt (fun e => by
            rcases ho1.2 with ⟨hv, _⟩ | ⟨g', cap, cur, hv, _, hh, _⟩
            · rw [hv] at e; simp [Value.ownBlock] at e
            · rw [hv] at e
              have : g = g' := by simpa [Value.ownBlock] using e
              subst this
              obtain ⟨es, clk, hb, _⟩ := him
              rw [hb] at hh; cases hh))
          exact ⟨⟨hnb _ _ _ hs1.blk (by decide), fun g hg => ⟨hnb _ _ _ (hs1.src g hg).blk (by decide), hnm _ _ (hs1.src g hg).im, hnm _ _ (hs1.src g hg).ic, (hs1.src g hg).ne, (hs1.src g hg).na, (hs1.src g hg).str⟩,
            ⟨fun f bs hf => ⟨(hs1.fr.at_ f bs hf).1, hnb _ _ _ (hs1.fr.at_ f bs hf).2 (by decide)⟩⟩⟩, hs1.ok, hs1.cn0⟩
        have hkp2 : Keep (tch S b σ.fm) W w2 := HK1.out.trans hbel (fun i hi e => by
          have := (ho1.lt i e.symm).1; omega)
        have HS2 := Lib.hid hsp2; have HK2 := Lib.hid hkp2
        rw [hlen2] at hown' ⊢
        have HO2 := Lib.hid hown'; have HL := Lib.hid hlen2
        clear hown' hg hor hbel hsp2 hkp2 hlen2 ho1
        go_wp2
        go_roundw
        case rel => exact ⟨k + 1, σ1, A', _, c', by omega, by go_num, rfl, rfl, ⟨σk, HA.out, HN1.out⟩, HE1.out, by have := HO2.out; rwa [← HSt.out] at this, HS2.out, HK2.out⟩
        case measure => simp [intOf]; omega
    · obtain rfl : k = 64 := by omega
      have HF := Lib.hid (show PagesP S b σ W (.returned (.slice A n c)) wr from ⟨σk, A, n, c, rfl, HN.out, HA.out, HE.out, HO.out, HS.out, HK.out⟩)
      go_wp2
      go_returns
      exact HF.out
end Go.Proofs.Ytlgnhnjnkhnoiaa
