/- The law AccessChanges, walked. -/
import Derived.Test.YtgegkjjknlfkpaaDoorRefB
import Derived.Test.YtgegkjjknlfkpaaDoorRun
import Derived.Test.YtgegkjjknlfkpaaDoorKnown
namespace Go.Proofs.YtgegkjjknlfkpaaDoor
open Go.RowKit
set_option maxRecDepth 100000
set_option maxHeartbeats 2000000 in
theorem accessChanges_walk (u : Int) (A : Option Addr) (n c : Nat) (l : List Int) (fo fg fm owner : Int) (w : World) (hg : Glob w) (hr : Rd w w.heap.size LI A n l) (hnc : n ≤ c) (hc : c ≤ 9223372036854775807) :
    Calls Tryd.prog 6 #[.agg #[.int .i64 u, .slice A n c], .agg #[.int .i64 fo, .int .i64 fg, .int .i64 fm], .int .i64 owner] w fun e w' => e = .returned (.bool true) ∧ Below w.heap.size w w' := by
  have hb0 : Below w.heap.size w ((w.alloc (.cells #[.int .i64 u, .slice A n c] 24)).alloc (.cells #[.int .i64 fo, .int .i64 fg, .int .i64 fm] 26)) :=
    ((Below.refl _ _).alloc (Nat.le_refl _) _).alloc (by simp) _
  have hr3 := hr.after hb0
  have k0 := (Blk.new w 24 #[.int .i64 u, .slice A n c]).alloc (.cells #[.int .i64 fo, .int .i64 fg, .int .i64 fm] 26)
  have k1 := Blk.new (w.alloc (.cells #[.int .i64 u, .slice A n c] 24)) 26 #[.int .i64 fo, .int .i64 fg, .int .i64 fm]
  rw [show (w.alloc (.cells #[.int .i64 u, .slice A n c] 24)).heap.size = w.heap.size + 1 by simp] at k1
  have HB0 := Lib.hid hb0; have HR3 := Lib.hid hr3; have K0 := Lib.hid k0; have K1 := Lib.hid k1; have HG := Lib.hid hg
  clear hb0 hr3 k0 k1 hr hg
  go_enter Tryd.func6, Tryd.ntmps6
  go_wp2_with fail
  have hs3 : ((w.alloc (.cells #[.int .i64 u, .slice A n c] 24)).alloc (.cells #[.int .i64 fo, .int .i64 fg, .int .i64 fm] 26)).heap.size = w.heap.size + 2 := by simp
  refine (who_any u A n c l _ HR3.out hnc hc).mono ?_
  generalize (w.alloc (.cells #[.int .i64 u, .slice A n c] 24)).alloc (.cells #[.int .i64 fo, .int .i64 fg, .int .i64 fm] 26) = w3 at HB0 HR3 K0 K1 hs3 ⊢
  rintro e w4 ⟨A1, c1, A2, c2, rfl, ho1, ho2, hb4⟩
  rw [hs3] at ho1 ho2
  generalize hk : (l.take 8).length = k at ho1 ho2
  have hk8 : k ≤ 8 := by rw [← hk]; simp; omega
  clear hk
  generalize l.take 8 = l2 at ho1 ho2
  have k04 := K0.out.after hb4
  have k14 := K1.out.after hb4
  have hb04 := HB0.out.trans (hb4.mono HB0.out.size)
  have f0 := k04.frozen 0
  have f1 := k04.frozen 1
  have q0 : w4.cell? ⟨w.heap.size, 0, none⟩ = some (.int .i64 u) := k04.cell 0
  have q1 : w4.cell? ⟨w.heap.size, 1, none⟩ = some (.slice A n c) := k04.cell 1
  have hs4 : w.heap.size + 2 ≤ w4.heap.size := by have := hb4.size; omega
  have hl0 : w.heap.size < w4.heap.size := by omega
  have hl1 : w.heap.size + 1 < w4.heap.size := by omega
  have HO1 := Lib.hid ho1; have HO2 := Lib.hid ho2; have HB4 := Lib.hid hb04; have K04 := Lib.hid k04; have K14 := Lib.hid k14
  clear ho1 ho2 hb04 k04 k14 hb4 hs3 HB0 HR3 K0 K1
  go_upto_region 2 with fail
  have hn0 : w.heap.size + 1 ≠ w.heap.size := by omega
  have k05 := ((K04.out.set_ 0 (.int .i64 u)).set_ 1 (.slice A2 k c2)).alloc (.cells #[.int .i64 u, .slice A1 k c1] 28)
  have k15 := ((K14.out.far (p := ⟨w.heap.size, 0, none⟩) hn0 (.int .i64 u)).far (p := ⟨w.heap.size, 1, none⟩) hn0 (.slice A2 k c2)).alloc (.cells #[.int .i64 u, .slice A1 k c1] 28)
  have k75 := Blk.new ((w4.setCell ⟨w.heap.size, 0, none⟩ (.int .i64 u)).setCell ⟨w.heap.size, 1, none⟩ (.slice A2 k c2)) 28 #[.int .i64 u, .slice A1 k c1]
  rw [show ((w4.setCell ⟨w.heap.size, 0, none⟩ (.int .i64 u)).setCell ⟨w.heap.size, 1, none⟩ (.slice A2 k c2)).heap.size = w4.heap.size by simp] at k75
  have ho15 := ((HO1.out.setCell (a := ⟨w.heap.size, 0, none⟩) (by show w.heap.size < w.heap.size + 2; omega) (.int .i64 u)).setCell (a := ⟨w.heap.size, 1, none⟩) (by show w.heap.size < w.heap.size + 2; omega) (.slice A2 k c2)).alloc (.cells #[.int .i64 u, .slice A1 k c1] 28)
  have ho25 := ((HO2.out.setCell (a := ⟨w.heap.size, 0, none⟩) (by show w.heap.size < w.heap.size + 2; omega) (.int .i64 u)).setCell (a := ⟨w.heap.size, 1, none⟩) (by show w.heap.size < w.heap.size + 2; omega) (.slice A2 k c2)).alloc (.cells #[.int .i64 u, .slice A1 k c1] 28)
  have hb5' := (HB4.out.setCell (p := ⟨w.heap.size, 0, none⟩) (Nat.le_refl _) (.int .i64 u)).setCell (p := ⟨w.heap.size, 1, none⟩) (Nat.le_refl _) (.slice A2 k c2)
  have hb5 := hb5'.alloc hb5'.size (.cells #[.int .i64 u, .slice A1 k c1] 28)
  clear hb5'
  generalize ((w4.setCell ⟨w.heap.size, 0, none⟩ (.int .i64 u)).setCell ⟨w.heap.size, 1, none⟩ (.slice A2 k c2)).alloc (.cells #[.int .i64 u, .slice A1 k c1] 28) = W5 at k05 k15 k75 ho15 ho25 hb5 ⊢
  generalize w4.heap.size = b7 at hs4 hl0 hl1 k75 ⊢
  have HW : Hid (∀ W, Below W5.heap.size W5 W → W.cell? ⟨w.heap.size, 0, none⟩ = some (.int .i64 u) ∧ W.cell? ⟨w.heap.size, 1, none⟩ = some (.slice A2 k c2) ∧ W.cell? ⟨w.heap.size + 1, 0, none⟩ = some (.int .i64 fo) ∧ W.cell? ⟨w.heap.size + 1, 1, none⟩ = some (.int .i64 fg) ∧ W.cell? ⟨w.heap.size + 1, 2, none⟩ = some (.int .i64 fm) ∧ W.cell? ⟨b7, 0, none⟩ = some (.int .i64 u) ∧ W.cell? ⟨b7, 1, none⟩ = some (.slice A1 k c1)) :=
    Lib.hid fun W h => ⟨(k05.after h).cell 0, (k05.after h).cell 1, (k15.after h).cell 0, (k15.after h).cell 1, (k15.after h).cell 2, (k75.after h).cell 0, (k75.after h).cell 1⟩
  have HG5 := Lib.hid (HG.out.after HG.out.lt hb5)
  have HO15 := Lib.hid ho15; have HO25 := Lib.hid ho25; have HB5 := Lib.hid hb5
  clear k05 k15 k75 ho15 ho25 hb5 f0 f1 q0 q1 hs4 hl0 hl1 hn0 HO1 HO2 HB4 K04 K14
  obtain ⟨q0, q1, q2, q3, q4, q5, q6⟩ := HW.out W5 (Below.refl _ _)
  go_wp2_with fail
  refine (change_any u owner A1 k c1 W5).mono ?_
  rintro e W6 ⟨rfl, hb6⟩
  have hk9 : k ≤ 9223372036854775807 := by omega
  have hb56 := hb6
  have h1 := HO15.out.after hb56
  have h2 := HO25.out.after hb56
  have hg6 := HG5.out.after HG5.out.lt hb56
  have hw6 := HB5.out.trans (hb56.mono HB5.out.size)
  have hc10 : ∀ W, Below W6.heap.size W6 W → Calls Tryd.prog 10 #[] W fun e w' => e = .returned (.bool true) ∧ Below W.heap.size W w' := fun W hW => known_any W (hg6.after hg6.lt hW)
  have hc17 : ∀ W, Below W6.heap.size W6 W → Calls Tryd.prog 17 #[.agg #[.int .i64 u, .slice A1 k c1], .int .i64 fo, .int .i64 fg, .int .i64 fm, .int .i64 owner] W fun e w' => e = .returned (.int .i64 (remN u l2 fo fg fm owner : Nat)) ∧ Below W.heap.size W w' := fun W hW => remove_any u A1 k c1 l2 fo fg fm owner W (hg6.after hg6.lt hW) (h1.after hW).rd hk9
  have hc18 : ∀ W, Below W6.heap.size W6 W → Calls Tryd.prog 18 #[.agg #[.int .i64 u, .slice A2 k c2], .int .i64 fo, .int .i64 fg, .int .i64 fm, .int .i64 owner] W fun e w' => e = .returned (.int .i64 (remN u l2 fo fg fm owner : Nat)) ∧ Below W.heap.size W w' := fun W hW => rremove_any u A2 k c2 l2 fo fg fm owner W (h2.after hW).rd hk9
  have hcl : ∀ W, Below W6.heap.size W6 W → W.cell? ⟨w.heap.size, 0, none⟩ = some (.int .i64 u) ∧ W.cell? ⟨w.heap.size, 1, none⟩ = some (.slice A2 k c2) ∧ W.cell? ⟨w.heap.size + 1, 0, none⟩ = some (.int .i64 fo) ∧ W.cell? ⟨w.heap.size + 1, 1, none⟩ = some (.int .i64 fg) ∧ W.cell? ⟨w.heap.size + 1, 2, none⟩ = some (.int .i64 fm) ∧ W.cell? ⟨b7, 0, none⟩ = some (.int .i64 u) ∧ W.cell? ⟨b7, 1, none⟩ = some (.slice A1 k c1) := fun W hW => HW.out W (bl_tr hb56 hW)
  have r10 := Lib.hid (regrow_call hc10); have r17 := Lib.hid (regrow_call hc17); have r18 := Lib.hid (regrow_call hc18)
  have hx0 := regrow fun W hW => (hcl W hW).1
  have hx1 := regrow fun W hW => (hcl W hW).2.1
  have hx2 := regrow fun W hW => (hcl W hW).2.2.1
  have hx3 := regrow fun W hW => (hcl W hW).2.2.2.1
  have hx4 := regrow fun W hW => (hcl W hW).2.2.2.2.1
  have hx5 := regrow fun W hW => (hcl W hW).2.2.2.2.2.1
  have hx6 := regrow fun W hW => (hcl W hW).2.2.2.2.2.2
  have HW6 := Lib.hid hw6
  clear hc10 hc17 hc18 hcl hw6 hg6 h1 h2 hb56 hb6 HW HG5 HO15 HO25 HB5 q0 q1 q2 q3 q4 q5 q6
  generalize remN u l2 fo fg fm owner = rr at r17 r18
  have fin : ∀ (W : World), Below W6.heap.size W6 W → Below w.heap.size w W := fun W h => HW6.out.trans (h.mono HW6.out.size)
  have Fin := Lib.hid fin; clear fin
  by_cases h0 : u = 0
  · have hch : chgN u owner = 0 := by unfold chgN; rw [if_pos (.inl h0)]
    rw [hch]
    have e0 : (u == 0) = true := by simp [h0]
    clear h0 hch
    go_wp2
    refine wp_region_quiet_below (by kernel_rfl) (by kernel_rfl) ?_
    repeat (go_big_quiet_step (first | exact r10.out _ _ | exact r17.out _ _ | exact r18.out _ _))
    refine wpQuiet_nil ?_
    rintro _ ⟨⟨dq, osq⟩, rfl⟩
    have hb := below_regrown W6 dq osq
    generalize Go.Sort.grow (redrawn W6 dq) osq = W9 at hb ⊢
    have HBf := Lib.hid (Fin.out _ hb)
    clear hb hx0 hx1 hx2 hx3 hx4 hx5 hx6
    go_wp2
    go_returns
    exact ⟨rfl, HBf.out⟩
  by_cases h1 : u = owner
  · have hch : chgN u owner = 0 := by unfold chgN; rw [if_pos (.inr h1)]
    rw [hch]
    have e0 : (u == 0) = false := by simp [h0]
    have e1 : (u == owner) = true := by simp [h1]
    clear h0 h1 hch
    go_wp2
    refine wp_region_quiet_below (by kernel_rfl) (by kernel_rfl) ?_
    repeat (go_big_quiet_step (first | exact r10.out _ _ | exact r17.out _ _ | exact r18.out _ _))
    refine wpQuiet_nil ?_
    rintro _ ⟨⟨dq, osq⟩, rfl⟩
    have hb := below_regrown W6 dq osq
    generalize Go.Sort.grow (redrawn W6 dq) osq = W9 at hb ⊢
    have HBf := Lib.hid (Fin.out _ hb)
    clear hb hx0 hx1 hx2 hx3 hx4 hx5 hx6
    go_wp2
    go_returns
    exact ⟨rfl, HBf.out⟩
  · have hch : chgN u owner = 14 := by unfold chgN; rw [if_neg (by rintro (h | h); exact h0 h; exact h1 h)]
    rw [hch]
    have e0 : (u == 0) = false := by simp [h0]
    have e1 : (u == owner) = false := by simp [h1]
    clear h0 h1 hch
    go_wp2
    refine wp_region_quiet_below (by kernel_rfl) (by kernel_rfl) ?_
    repeat (go_big_quiet_step (first | exact r10.out _ _ | exact r17.out _ _ | exact r18.out _ _))
    refine wpQuiet_nil ?_
    rintro _ ⟨⟨dq, osq⟩, rfl⟩
    have hb := below_regrown W6 dq osq
    generalize Go.Sort.grow (redrawn W6 dq) osq = W9 at hb ⊢
    have HBf := Lib.hid (Fin.out _ hb)
    clear hb hx0 hx1 hx2 hx3 hx4 hx5 hx6
    go_wp2
    go_returns
    exact ⟨rfl, HBf.out⟩
end Go.Proofs.YtgegkjjknlfkpaaDoor
