/- The reference's List and with, by contracts. -/
import Derived.Test.YtbeemkamjachpaaB17
namespace Go.Proofs.Ytbeemkamjachpaa
open Go.RowKit
set_option maxRecDepth 100000
theorem ElI : Elem Try.prog 26 3 LI.size 8 := Elem.of (z := .int .i64 0) Try.underlying26 (by kernel_rfl) rfl
theorem Own.setI {w : World} {base n c g : Nat} {e : TypeId} {l : List Int} (h : Own w base e LI (.slice (some ⟨g, 0, none⟩) n c) l) (k : Nat) (y : Int) :
    Own (w.setCell ⟨g, k, none⟩ (.int .i64 y)) base e LI (.slice (some ⟨g, 0, none⟩) n c) (l.set k y) := by
  have hl := h.cap.1
  subst hl
  have := (World.ownsRow.stored h k (.int .i64 y)).1
  unfold Own
  rw [List.length_set]
  have e1 : (l.set k y).flatMap LI.enc = (l.flatMap LI.enc).set k (.int .i64 y) := flat_set (fun x => Value.int .i64 x) l k y
  rw [e1]
  exact this
set_option maxHeartbeats 2000000 in
theorem rlist_any (f c : Nat) (l : List UInt8) (A : Option Addr) (a b : Int) (W : World) (hr : Rd W W.heap.size LI A l.length (RL l)) (hf : f ≤ 1073741824) (hn : l.length ≤ 65536) : Calls Try.prog 40 #[RM f A l.length c, .int .i64 a, .int .i64 b] W fun e w' =>
    ∃ A' m c', e = .returned (.slice A' m c') ∧ Own w' W.heap.size 3 LI (.slice A' m c') (inL f l [a, b] l.length) ∧ Below W.heap.size W w' := by
  have HB := Lib.hid ((Below.refl W.heap.size W).alloc (Nat.le_refl _) (.cells #[.int .i64 (f : Nat), .slice A l.length c] 28))
  have KB := Lib.hid (Blk.new W 28 #[.int .i64 (f : Nat), .slice A l.length c])
  have HR := Lib.hid hr
  unfold RM
  clear hr
  go_enter Try.func40, Try.ntmps40
  go_wp2
  generalize W.alloc (.cells #[.int .i64 (f : Nat), .slice A l.length c] 28) = W1 at HB KB ⊢
  go_loopw [7, 8] (fun v i wr => ∃ k : Nat, k ≤ l.length ∧ i = .int .i64 (k : Nat) ∧ Own wr W.heap.size 3 LI v (inL f l [a, b] k) ∧ Blk wr W.heap.size 28 #[.int .i64 (f : Nat), .slice A l.length c] ∧ Below W.heap.size W wr) (fun _ i _ => l.length - (intOf i).toNat)
  case atStart => exact ⟨0, by omega, rfl, Own.nil_, KB.out, HB.out⟩
  case round =>
    obtain ⟨k, hk, rfl, hown, hbk, hb⟩ := hrel
    have hst := inL_succ f l [a, b] k
    have hle := inL_len f l [a, b] k
    have c0 : wr.cell? ⟨W.heap.size, 0, none⟩ = some (.int .i64 (f : Nat)) := hbk.cell 0
    have c1 : wr.cell? ⟨W.heap.size, 1, none⟩ = some (.slice A l.length c) := hbk.cell 1
    have HO := Lib.hid hown; have HBk := Lib.hid hbk; have HBe := Lib.hid hb
    obtain ⟨vA, vn, vc, rfl⟩ := hown.sl
    have hvn := hown.cap.1
    by_cases hlt : k < l.length
    · obtain ⟨ba, o, y, rfl, -, hy, hc⟩ := (HR.out.below hb).nth hlt
      have hyq := RL_get l k y hlt hy
      have d0 : wr.cell? ⟨ba, o + k, none⟩ = some (.int .i64 y) := by
        have := hc 0 _ rfl
        simpa [LI] using this
      rw [← hyq] at hst
      clear hy hc hyq hown hbk hb
      by_cases hm : y ∈ [a, b]
      · rw [if_pos hm] at hst
        have hcases : ((y == a) = true) ∨ ((y == a) = false ∧ (y == b) = true) := by
          by_cases h : y = a
          · exact .inl (by simp [h])
          · refine .inr ⟨by simp [h], ?_⟩
            simp [h] at hm
            simp [hm]
        have HS := Lib.hid hst
        clear hm hst
        generalize inL f l [a, b] k = cur at HO HS hle hvn
        have e36 : (f : Int) + (k : Nat) ≤ 9223372036854775807 := by omega
        rcases hcases with e1 | ⟨e1, e2⟩
        all_goals
          go_wp2_with (at_builtin; refine ap_one _ rfl _ _ ElI rfl W.heap.size _ cur rfl (HO.out.alloc _) ⟨wr.heap.size, 0, none⟩ 1 ((f : Int) + (k : Nat)) rfl ?c1 ?c2 ?c3 ?c4 ?_)
          case c1 => exact new_at rfl
          case c2 => omega
          case c3 => omega
          case c4 => have := HBe.out.size; simp; omega
          intro A' c' w' hown' hg _ _ _
          have hbk' : Blk w' W.heap.size 28 #[.int .i64 (f : Nat), .slice (some ⟨ba, o, none⟩) l.length c] := (HBk.out.alloc _).grown hg (HBk.out.own_ne HO.out (by decide))
          have hb' : Below W.heap.size W w' := (HO.out.alloc _).belowGrown (HBe.out.alloc HBe.out.size _) (by have := HBe.out.size; simp; omega) (Nat.le_refl _) hg
          rw [← HS.out] at hown'
          have HO' := Lib.hid hown'; have HBk' := Lib.hid hbk'; have HBe' := Lib.hid hb'
          clear hown' hbk' hb' hg HO HBk HBe
          go_wp2
          go_roundw
          case rel => exact ⟨k + 1, by omega, by go_num, HO'.out, HBk'.out, HBe'.out⟩
          case measure => simp [intOf]; omega
      · rw [if_neg hm, List.append_nil] at hst
        have e1 : (y == a) = false := by simp at hm ⊢; exact hm.1
        have e2 : (y == b) = false := by simp at hm ⊢; exact hm.2
        rw [← hst] at HO
        clear hm hst
        go_wp2
        go_roundw
        case rel => exact ⟨k + 1, by omega, by go_num, HO.out, HBk.out, HBe.out⟩
        case measure => simp [intOf]; omega
    · obtain rfl : k = l.length := by omega
      clear hst hown hbk hb hvn
      go_wp2
      go_returns
      exact ⟨vA, vn, vc, rfl, HO.out, HBe.out⟩
set_option maxHeartbeats 2000000 in
theorem with_any (f c : Nat) (l : List UInt8) (A : Option Addr) (k : Nat) (st : Int) (W : World) (hr : Rd W W.heap.size LI A l.length (RL l)) (_hf : f ≤ 1073741824) (hn : l.length ≤ 65536) (hk : k < l.length) : Calls Try.prog 50 #[RM f A l.length c, .int .i64 ((f : Int) + (k : Nat)), .int .i64 st] W fun e w' =>
    ∃ A' c', e = .returned (RM f A' l.length c') ∧ Own w' W.heap.size 3 LI (.slice A' l.length c') ((RL l).set k st) ∧ Below W.heap.size W w' := by
  have hl := RL_len l
  have HR := Lib.hid hr
  have k0 := ((Blk.new W 28 #[.int .i64 (f : Nat), .slice A l.length c]).alloc (.cells #[.int .i64 0, .slice none 0 0] 28)).alloc (.cells #[] 3)
  have k1 := (Blk.new (W.alloc (.cells #[.int .i64 (f : Nat), .slice A l.length c] 28)) 28 #[.int .i64 0, .slice none 0 0]).alloc (.cells #[] 3)
  have o2 : Own (((W.alloc (.cells #[.int .i64 (f : Nat), .slice A l.length c] 28)).alloc (.cells #[.int .i64 0, .slice none 0 0] 28)).alloc (.cells #[] 3)) (W.heap.size + 2) 3 LI (.slice (some ⟨W.heap.size + 2, 0, none⟩) 0 0) [] := by
    have := new_own (L := LI) (w := (W.alloc (.cells #[.int .i64 (f : Nat), .slice A l.length c] 28)).alloc (.cells #[.int .i64 0, .slice none 0 0] 28)) (e := 3) (cs := #[]) (l := []) (base := W.heap.size + 2) (by simp) (Nat.zero_le _) rfl
    simpa using this
  have hr2 : Rd (((W.alloc (.cells #[.int .i64 (f : Nat), .slice A l.length c] 28)).alloc (.cells #[.int .i64 0, .slice none 0 0] 28)).alloc (.cells #[] 3)) W.heap.size LI A l.length (RL l) := ((hr.alloc (Nat.le_refl _) _).alloc (by simp) _).alloc (by simp; omega) _
  have hb2 : Below W.heap.size W (((W.alloc (.cells #[.int .i64 (f : Nat), .slice A l.length c] 28)).alloc (.cells #[.int .i64 0, .slice none 0 0] 28)).alloc (.cells #[] 3)) := (((Below.refl _ W).alloc (Nat.le_refl _) _).alloc (by simp) _).alloc (by simp; omega) _
  have K0 := Lib.hid k0; have K1 := Lib.hid k1; have O2 := Lib.hid o2; have R2 := Lib.hid hr2; have B2 := Lib.hid hb2
  simp only [World.size_alloc] at K1
  have ek : (f : Int) + (k : Nat) - (f : Nat) = (k : Nat) := by omega
  have hwk : IntKind.i64.wrap ((k : Nat) : Int) = (k : Nat) := by rw [IntKind.wrap_i64]; omega
  unfold RM
  clear hr k0 k1 o2 hr2 hb2
  go_enter Try.func50, Try.ntmps50
  go_wp2_with (at_builtin; refine ap_any _ rfl _ _ ElI rfl (W.heap.size + 2) (.slice (some ⟨W.heap.size + 2, 0, none⟩) 0 0) [] rfl ?c1 W.heap.size A _ c (RL l) rfl ?c2 ?c3 ?c4 ?c5 ?_)
  case c1 => exact O2.out
  case c2 => exact R2.out
  case c3 => simp; omega
  case c4 => simp; omega
  case c5 => simp
  intro A1 c1 w1 hown hg _ hcap _
  have h0 : Blk w1 W.heap.size 28 #[.int .i64 (f : Nat), .slice A l.length c] := K0.out.grown hg (by simp [Value.ownBlock])
  have h1 : Blk w1 (W.heap.size + 1) 28 #[.int .i64 0, .slice none 0 0] := K1.out.grown hg (by simp [Value.ownBlock])
  have hb1 : Below W.heap.size W w1 := B2.out.grown hg (by simp; omega) (fun i hi => by simp [Value.ownBlock] at hi; omega)
  obtain ⟨g, rfl, hgb, hgl, hgc, hgz⟩ := hown.form0 (by omega)
  have d0 : w1.cell? ⟨W.heap.size, 0, none⟩ = some (.int .i64 (f : Nat)) := h0.cell 0
  have d1 : w1.cell? ⟨W.heap.size, 1, none⟩ = some (.slice A l.length c) := h0.cell 1
  have z1 := h0.frozen 1
  have e0 : w1.cell? ⟨W.heap.size + 1, 0, none⟩ = some (.int .i64 0) := h1.cell 0
  have e1 : w1.cell? ⟨W.heap.size + 1, 1, none⟩ = some (.slice none 0 0) := h1.cell 1
  have y0 := h1.frozen 0; have y1 := h1.frozen 1
  obtain ⟨q, hq⟩ : ∃ q, (RL l)[k]? = some q := ⟨_, List.getElem?_eq_getElem (by rw [RL_len]; exact hk)⟩
  have dk : w1.cell? ⟨g, k, none⟩ = some (.int .i64 q) := hgc k _ (by rw [LI_all, List.getElem?_map, hq]; rfl)
  have zk := hgz k
  have n1 : ¬ g = W.heap.size := by omega
  have n2 : ¬ g = W.heap.size + 1 := by omega
  have n3 : ¬ W.heap.size = g := by omega
  have n4 : ¬ W.heap.size + 1 = g := by omega
  have HO := Lib.hid hown; have HB := Lib.hid hb1; have HK0 := Lib.hid h0; have HK1 := Lib.hid h1
  clear hown hb1 h0 h1 hg hgc hgz hq K0 K1 O2 R2 B2 HR
  go_wp2
  have hO4 : Own ((((w1.setCell ⟨W.heap.size, 1, none⟩ (.slice (some ⟨g, 0, none⟩) l.length c1)).setCell ⟨g, k, none⟩ (.int .i64 st)).setCell ⟨W.heap.size + 1, 0, none⟩ (.int .i64 (f : Nat))).setCell ⟨W.heap.size + 1, 1, none⟩ (.slice (some ⟨g, 0, none⟩) l.length c1)) W.heap.size 3 LI (.slice (some ⟨g, 0, none⟩) l.length c1) ((RL l).set k st) :=
    ((((HO.out.setCell (a := ⟨W.heap.size, 1, none⟩) (by show W.heap.size < W.heap.size + 2; omega) _).setI k st).setCell (a := ⟨W.heap.size + 1, 0, none⟩) (by show W.heap.size + 1 < W.heap.size + 2; omega) _).setCell (a := ⟨W.heap.size + 1, 1, none⟩) (by show W.heap.size + 1 < W.heap.size + 2; omega) _).mono (by omega)
  have hB4 : Below W.heap.size W ((((w1.setCell ⟨W.heap.size, 1, none⟩ (.slice (some ⟨g, 0, none⟩) l.length c1)).setCell ⟨g, k, none⟩ (.int .i64 st)).setCell ⟨W.heap.size + 1, 0, none⟩ (.int .i64 (f : Nat))).setCell ⟨W.heap.size + 1, 1, none⟩ (.slice (some ⟨g, 0, none⟩) l.length c1)) :=
    (((HB.out.setCell (p := ⟨W.heap.size, 1, none⟩) (Nat.le_refl _) _).setCell (p := ⟨g, k, none⟩) (by show W.heap.size ≤ g; omega) _).setCell (p := ⟨W.heap.size + 1, 0, none⟩) (by show W.heap.size ≤ W.heap.size + 1; omega) _).setCell (p := ⟨W.heap.size + 1, 1, none⟩) (by show W.heap.size ≤ W.heap.size + 1; omega) _
  have hK4 : Blk ((((w1.setCell ⟨W.heap.size, 1, none⟩ (.slice (some ⟨g, 0, none⟩) l.length c1)).setCell ⟨g, k, none⟩ (.int .i64 st)).setCell ⟨W.heap.size + 1, 0, none⟩ (.int .i64 (f : Nat))).setCell ⟨W.heap.size + 1, 1, none⟩ (.slice (some ⟨g, 0, none⟩) l.length c1)) (W.heap.size + 1) 28 #[.int .i64 (f : Nat), .slice (some ⟨g, 0, none⟩) l.length c1] :=
    (((HK1.out.far (p := ⟨W.heap.size, 1, none⟩) (by show W.heap.size + 1 ≠ W.heap.size; omega) _).far (p := ⟨g, k, none⟩) (by show W.heap.size + 1 ≠ g; omega) _).set_ 0 (.int .i64 (f : Nat))).set_ 1 (.slice (some ⟨g, 0, none⟩) l.length c1)
  clear d0 d1 e0 e1 dk
  generalize ((((w1.setCell ⟨W.heap.size, 1, none⟩ (.slice (some ⟨g, 0, none⟩) l.length c1)).setCell ⟨g, k, none⟩ (.int .i64 st)).setCell ⟨W.heap.size + 1, 0, none⟩ (.int .i64 (f : Nat))).setCell ⟨W.heap.size + 1, 1, none⟩ (.slice (some ⟨g, 0, none⟩) l.length c1)) = w4 at hO4 hB4 hK4 ⊢
  have r0 := hK4.cell 0; have r1 := hK4.cell 1
  simp at r0 r1
  refine bodyPost_ret (v := .agg #[.int .i64 (f : Nat), .slice (some ⟨g, 0, none⟩) l.length c1]) (by simp [results, Try.f50, go_sem, r0, r1]) rfl ?_
  exact ⟨some ⟨g, 0, none⟩, c1, rfl, hO4, hB4⟩
end Go.Proofs.Ytbeemkamjachpaa
