/- Change, Clone and Run, by contracts. -/
import Derived.Test.YtgegkjjknlfkpaaDoorWho
import Derived.Test.YtgegkjjknlfkpaaDoorText
namespace Go.Proofs.YtgegkjjknlfkpaaDoor
open Go.RowKit
set_option maxRecDepth 100000
def chgN (u owner : Int) : Nat := if u = 0 ∨ u = owner then 0 else 14
theorem change_any (u owner : Int) (A : Option Addr) (n c : Nat) (w : World) :
    Calls Tryd.prog 16 #[.agg #[.int .i64 u, .slice A n c], .int .i64 owner] w fun e w' => e = .returned (.int .i64 (chgN u owner : Nat)) ∧ Below w.heap.size w w' := by
  by_cases h0 : u = 0
  · have e0 : (u == 0) = true := by simp [h0]
    have HC := Lib.hid (show chgN u owner = 0 by unfold chgN; rw [if_pos (.inl h0)])
    clear h0
    go_enter Tryd.func16, Tryd.ntmps16
    go_wp2
    go_returns
    rw [HC.out]
    exact ⟨rfl, (Below.refl _ _).alloc (Nat.le_refl _) _⟩
  have e0 : (u == 0) = false := by simp [h0]
  by_cases h1 : u = owner
  · have e1 : (u == owner) = true := by simp [h1]
    have HC := Lib.hid (show chgN u owner = 0 by unfold chgN; rw [if_pos (.inr h1)])
    clear h0 h1
    go_enter Tryd.func16, Tryd.ntmps16
    go_wp2
    go_returns
    rw [HC.out]
    exact ⟨rfl, (Below.refl _ _).alloc (Nat.le_refl _) _⟩
  · have e1 : (u == owner) = false := by simp [h1]
    have HC := Lib.hid (show chgN u owner = 14 by unfold chgN; rw [if_neg (by rintro (h | h); exact h0 h; exact h1 h)])
    clear h0 h1
    go_enter Tryd.func16, Tryd.ntmps16
    go_wp2
    go_returns
    rw [HC.out]
    exact ⟨rfl, (Below.refl _ _).alloc (Nat.le_refl _) _⟩
theorem Own.far {α : Type} {L : Lay α} {w : World} {base : Nat} {e : TypeId} {v : Value} {l : List α} (h : Own w base e L v l) {a : Addr} (ha : ∀ k, v.ownBlock = some k → k ≠ a.block) (u : Value) : Own (w.setCell a u) base e L v l :=
  h.kept (S := fun i => i = a.block) (Keep.setCell (S := fun i => i = a.block) (Keep.refl _ w) (fun _ => rfl) u) ha
theorem bl_al {a w : World} (h : Below a.heap.size a w) (o : Obj) : Below a.heap.size a (w.alloc o) := h.alloc h.size o
theorem bl_tr {a w w' : World} (h : Below a.heap.size a w) (k : Below w.heap.size w w') : Below a.heap.size a w' := h.trans (k.mono h.size)
theorem of3 {p q r : Prop} (h : p ∧ q ∧ r) : p := h.1
theorem clone_any (A : Option Addr) (n c : Nat) (l : List Int) (w : World) (hr : Rd w w.heap.size LI A n l) (hn : n ≤ 1000) :
    Calls Tryd.prog 33 #[.slice A n c] w fun e w' => ∃ A1 c1, e = .returned (.slice A1 n c1) ∧ Own w' w.heap.size 3 LI (.slice A1 n c1) l ∧ Below w.heap.size w w' := by
  have hlen := hr.len
  have hq := Lib.run_eql_slice_nil (P := Tryd.prog)
  cases A with
  | none =>
    obtain rfl : n = 0 := by
      rcases Nat.eq_zero_or_pos n with h | h
      · exact h
      · obtain ⟨_, h, _⟩ := hr.2 h; cases h
    obtain rfl : l = [] := List.eq_nil_of_length_eq_zero hlen
    clear hlen hr hn
    go_enter Tryd.func33, Tryd.ntmps33
    go_wp2
    go_returns
    exact ⟨none, 0, rfl, Own.nil_, Below.refl _ _⟩
  | some a =>
    have hr2 := hr.after (w' := w.alloc (.cells #[] 3)) ((Below.refl _ _).alloc (Nat.le_refl _) _)
    have HR := Lib.hid hr2; have HL := Lib.hid hlen
    clear hr hlen hr2
    have ho : Own (w.alloc (.cells #[] 3)) w.heap.size 3 LI (.slice (some ⟨w.heap.size, 0, none⟩) 0 0) [] := new_own (l := []) (Nat.le_refl _) (Nat.zero_le _) rfl
    have HO := Lib.hid ho; clear ho
    go_enter Tryd.func33, Tryd.ntmps33
    go_wp2_with (at_builtin; refine ap_any _ (by rfl) _ _ ElI (by rfl) w.heap.size (.slice (some ⟨_, 0, none⟩) 0 0) [] (by rfl) HO.out (w.alloc (.cells #[] 3)).heap.size (some a) n c l (by rfl) HR.out ?_ ?_ ?_ ?_)
    case refine_1 => simp; omega
    case refine_2 => simp; omega
    case refine_3 => simp
    intro A6 c6 w6 hown6 hg6 _ _ _
    have hb6 : Below w.heap.size w w6 := Below.grown ((Below.refl _ _).alloc (Nat.le_refl _) (.cells #[] 3)) hg6 (by simp) (fun q hq => by simp [Value.ownBlock] at hq; omega)
    have HO6 := Lib.hid hown6; have HB6 := Lib.hid hb6
    clear hown6 hb6 hg6
    go_wp2
    go_returns
    exact ⟨A6, c6, rfl, HO6.out, HB6.out⟩
def RunEnd (u : Int) (n : Nat) (l : List Int) (w3 : World) (v7 : Value) (wx : World) : Prop :=
  ∃ A1 c1 b7, v7 = .pointer (some ⟨b7, 0, none⟩) ∧ Own wx w3.heap.size 3 LI (.slice A1 n c1) l ∧ Blk wx b7 28 #[.int .i64 u, .slice A1 n c1] ∧ w3.heap.size ≤ b7 ∧ Below w3.heap.size w3 wx
set_option maxHeartbeats 1000000 in
theorem run_any (u owner mode : Int) (A : Option Addr) (n c : Nat) (l : List Int) (w : World) (hr : Rd w w.heap.size LI A n l) (hn : n ≤ 1000) :
    Calls Tryd.prog 19 #[.agg #[.int .i64 u, .slice A n c], .int .i64 owner, .int .i64 mode] w fun e w' => ∃ A1 c1, e = .returned (.agg #[.int .i64 (if 0 ≤ mode ∧ mode ≤ 2047 ∧ mode.toNat / 512 % 2 = 1 then owner else u), .slice A1 n c1]) ∧ Rd w' w'.heap.size LI A1 n l ∧ Below w.heap.size w w' := by
  obtain ⟨z, hz⟩ : ∃ z, z = if 0 ≤ mode ∧ mode ≤ 2047 ∧ mode.toNat / 512 % 2 = 1 then owner else u := ⟨_, rfl⟩
  rw [← hz]
  have HZ := Lib.hid hz; clear hz
  have hb0 : Below w.heap.size w ((w.alloc (.cells #[.int .i64 u, .slice A n c] 28)).alloc (.cells #[.int .i64 0, .slice none 0 0] 28)) := ((Below.refl _ _).alloc (Nat.le_refl _) _).alloc (by simp) _
  have hr3 := hr.after hb0
  have bx : Blk ((w.alloc (.cells #[.int .i64 u, .slice A n c] 28)).alloc (.cells #[.int .i64 0, .slice none 0 0] 28)) w.heap.size 28 #[.int .i64 u, .slice A n c] := (Blk.new w _ _).alloc _
  have b6 : Blk ((w.alloc (.cells #[.int .i64 u, .slice A n c] 28)).alloc (.cells #[.int .i64 0, .slice none 0 0] 28)) (w.heap.size + 1) 28 #[.int .i64 0, .slice none 0 0] := by
    have := Blk.new (w.alloc (.cells #[.int .i64 u, .slice A n c] 28)) 28 #[.int .i64 0, .slice none 0 0]
    simpa using this
  have HB0 := Lib.hid hb0; have HR3 := Lib.hid hr3; have HX := Lib.hid bx; have H6 := Lib.hid b6
  clear hb0 hr3 bx b6 hr
  go_enter Tryd.func19, Tryd.ntmps19
  go_upto_region 1 with fail
  have hs3 : w.heap.size + 2 = ((w.alloc (.cells #[.int .i64 u, .slice A n c] 28)).alloc (.cells #[.int .i64 0, .slice none 0 0] 28)).heap.size := by simp
  generalize (w.alloc (.cells #[.int .i64 u, .slice A n c] 28)).alloc (.cells #[.int .i64 0, .slice none 0 0] 28) = w3 at HB0 HR3 HX H6 hs3 ⊢
  have hs3' : w.heap.size + 2 ≤ w3.heap.size := by omega
  have HS3 := Lib.hid hs3; clear hs3
  have d0 : w3.cell? ⟨w.heap.size, 0, none⟩ = some (.int .i64 u) := HX.out.cell 0
  have d1 : w3.cell? ⟨w.heap.size, 1, none⟩ = some (.slice A n c) := HX.out.cell 1
  have k0 : Below w3.heap.size w3 w3.drew := (Below.refl _ _).drew
  have k1 : ∀ o, Below w3.heap.size w3 (w3.alloc o).drew := fun o => ((Below.refl _ _).alloc (Nat.le_refl _) o).drew
  have K1 := Lib.hid k1
  clear k1
  go_cut [7] (fun v7 wx => RunEnd u n l w3 v7 wx)
  case first =>
    have hk : ∀ W, Below w3.heap.size w3 W → W.cell? ⟨w.heap.size, 0, none⟩ = some (.int .i64 u) ∧ W.cell? ⟨w.heap.size, 1, none⟩ = some (.slice A n c) := fun W h => ⟨(HX.out.after h).cell 0, (HX.out.after h).cell 1⟩
    have HK := Lib.hid hk; clear hk
    go_region_held3 (fun W => Below w3.heap.size w3 W ∧ W.cell? ⟨w.heap.size, 0, none⟩ = some (.int .i64 u) ∧ W.cell? ⟨w.heap.size, 1, none⟩ = some (.slice A n c))
      (first
        | assumption
        | (refine (fun h => ⟨h, HK.out _ h⟩) ?_; (first | exact k0 | exact K1.out _ | exact bl_tr (of3 (by assumption)) hb1 | exact bl_al (of3 (by assumption)) _ | exact bl_tr k0 hb1 | exact bl_tr (K1.out _) hb1 | exact bl_al (bl_tr k0 hb1) _ | exact ((bl_tr (K1.out _) hb1).setCell (Nat.le_refl _) _).setCell (Nat.le_refl _) _)))
      (first
        | (go_at_call 33; refine (clone_any A n c l _ (HR3.out.after (of3 (by assumption))) hn).mono ?_; rintro e w1 ⟨A1, c1, rfl, hown1, hb1⟩; (try (have bz := ((Blk.new w3 28 #[.int .i64 0, .slice none 0 0]).drew).after hb1; have g0 := bz.frozen 0; have g1 := bz.frozen 1; have g2 : w1.cell? ⟨w3.heap.size, 0, none⟩ = some (.int .i64 0) := bz.cell 0; have g3 : w1.cell? ⟨w3.heap.size, 1, none⟩ = some (.slice none 0 0) := bz.cell 1))))
    · go_wp2
      go_meet
      refine ⟨A1, c1, w1.heap.size, rfl, hown1.alloc _, Blk.new w1 _ _, (bl_tr k0 hb1).size, bl_al (bl_tr k0 hb1) _⟩
    · go_wp2
      go_meet
      have hne := bz.own_ne hown1 (by decide)
      have hbl := bl_tr (K1.out _) hb1
      refine ⟨A1, c1, w3.heap.size, rfl, ((hown1.mono (by simp)).far ?_ _).far ?_ _, (bz.set_ 0 _).set_ 1 _, Nat.le_refl _, (hbl.setCell (Nat.le_refl _) _).setCell (Nat.le_refl _) _⟩
      all_goals exact fun k hk e => hne (by rw [hk, e])
  case rest =>
    obtain ⟨A1, c1, b7, rfl, ho, hb7, hle, hbl⟩ := hcut
    have hx6 := H6.out.after hbl
    have f0 := hb7.frozen 0
    have c70 : wc.cell? ⟨b7, 0, none⟩ = some (.int .i64 u) := hb7.cell 0
    have c71 : wc.cell? ⟨b7, 1, none⟩ = some (.slice A1 n c1) := hb7.cell 1
    have q0 : wc.cell? ⟨w.heap.size + 1, 0, none⟩ = some (.int .i64 0) := hx6.cell 0
    have q1 : wc.cell? ⟨w.heap.size + 1, 1, none⟩ = some (.slice none 0 0) := hx6.cell 1
    have p0 := hx6.frozen 0
    have p1 := hx6.frozen 1
    have hne : ∀ k, (Value.slice A1 n c1).ownBlock = some k → k ≠ w.heap.size + 1 ∧ k ≠ b7 := fun k hk => ⟨by have := (ho.lt k hk).1; omega, fun e => hb7.own_ne ho (by decide) (by rw [hk, e])⟩
    have hbw := HB0.out.trans (hbl.mono HB0.out.size)
    have fin : ∀ x, ∃ A2 c2, Ending.returned (.agg #[.int .i64 x, .slice A1 n c1]) = .returned (.agg #[.int .i64 x, .slice A2 n c2]) ∧ Rd ((wc.setCell ⟨w.heap.size + 1, 0, none⟩ (.int .i64 x)).setCell ⟨w.heap.size + 1, 1, none⟩ (.slice A1 n c1)) ((wc.setCell ⟨w.heap.size + 1, 0, none⟩ (.int .i64 x)).setCell ⟨w.heap.size + 1, 1, none⟩ (.slice A1 n c1)).heap.size LI A2 n l ∧ Below w.heap.size w ((wc.setCell ⟨w.heap.size + 1, 0, none⟩ (.int .i64 x)).setCell ⟨w.heap.size + 1, 1, none⟩ (.slice A1 n c1)) := fun x =>
      ⟨A1, c1, rfl, ((ho.far (fun k hk => (hne k hk).1) _).far (fun k hk => (hne k hk).1) _).rd, (hbw.setCell (Nat.le_succ _) _).setCell (Nat.le_succ _) _⟩
    have fin2 : ∀ x y, ∃ A2 c2, Ending.returned (.agg #[.int .i64 x, .slice A1 n c1]) = .returned (.agg #[.int .i64 x, .slice A2 n c2]) ∧ Rd (((wc.setCell ⟨b7, 0, none⟩ y).setCell ⟨w.heap.size + 1, 0, none⟩ (.int .i64 x)).setCell ⟨w.heap.size + 1, 1, none⟩ (.slice A1 n c1)) (((wc.setCell ⟨b7, 0, none⟩ y).setCell ⟨w.heap.size + 1, 0, none⟩ (.int .i64 x)).setCell ⟨w.heap.size + 1, 1, none⟩ (.slice A1 n c1)).heap.size LI A2 n l ∧ Below w.heap.size w (((wc.setCell ⟨b7, 0, none⟩ y).setCell ⟨w.heap.size + 1, 0, none⟩ (.int .i64 x)).setCell ⟨w.heap.size + 1, 1, none⟩ (.slice A1 n c1)) := fun x y =>
      ⟨A1, c1, rfl, (((ho.far (fun k hk => (hne k hk).2) _).far (fun k hk => (hne k hk).1) _).far (fun k hk => (hne k hk).1) _).rd, ((hbw.setCell (by show w.heap.size ≤ b7; omega) _).setCell (Nat.le_succ _) _).setCell (Nat.le_succ _) _⟩
    have hne7 : b7 ≠ w.heap.size + 1 := by omega
    have Fin := Lib.hid fin; have Fin2 := Lib.hid fin2
    clear fin fin2 hne ho hb7 hbl hx6 hbw hle
    by_cases hm : mode < 0 ∨ 2047 < mode
    · have hzu : z = u := by rw [HZ.out, if_neg (by omega)]
      have HZU := Lib.hid hzu; clear hzu
      go_wp2_with fail
      refine (valid_no mode _ hm).mono ?_
      rintro e w1 ⟨rfl, rfl⟩
      clear hm
      go_wp2
      refine bodyPost_ret (v := .agg #[.int .i64 u, .slice A1 n c1]) (by simp [results, Tryd.results19, go_sem, q0, q1]) rfl (by rw [HZU.out]; exact Fin.out u)
    · obtain ⟨m, rfl⟩ := Int.eq_ofNat_of_zero_le (show 0 ≤ mode by omega)
      have hm' : m ≤ 2047 := by omega
      clear hm
      have hand := i64_and_nat m 512 (by omega) (by omega)
      rw [show m &&& 512 = if m / 512 % 2 = 1 then 512 else 0 from and_pow m 9] at hand
      by_cases h5 : m / 512 % 2 = 1
      · have hzu : z = owner := by rw [HZ.out, if_pos ⟨by omega, by omega, h5⟩]
        have HZU := Lib.hid hzu; clear hzu
        have e5 : (bits .and .i64 (m : Int) 512 != 0) = true := by rw [if_pos h5] at hand; rw [show bits .and .i64 (m : Int) 512 = ((512 : Nat) : Int) from hand]; rfl
        clear h5 hand
        go_wp2_with fail
        refine (valid_yes m _ hm').mono ?_
        rintro e w1 ⟨rfl, rfl⟩
        go_wp2
        refine bodyPost_ret (v := .agg #[.int .i64 owner, .slice A1 n c1]) (by simp [results, Tryd.results19, go_sem, q0, q1]) rfl (by rw [HZU.out]; exact Fin2.out owner _)
      · have hzu : z = u := by rw [HZ.out, if_neg (fun h => h5 h.2.2)]
        have HZU := Lib.hid hzu; clear hzu
        have e5 : (bits .and .i64 (m : Int) 512 != 0) = false := by rw [if_neg h5] at hand; rw [show bits .and .i64 (m : Int) 512 = ((0 : Nat) : Int) from hand]; rfl
        clear h5 hand
        go_wp2_with fail
        refine (valid_yes m _ hm').mono ?_
        rintro e w1 ⟨rfl, rfl⟩
        go_wp2
        refine bodyPost_ret (v := .agg #[.int .i64 u, .slice A1 n c1]) (by simp [results, Tryd.results19, go_sem, q0, q1]) rfl (by rw [HZU.out]; exact Fin.out u)
end Go.Proofs.YtgegkjjknlfkpaaDoor
