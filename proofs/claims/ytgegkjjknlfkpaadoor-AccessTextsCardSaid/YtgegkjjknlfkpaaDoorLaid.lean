/- What the listed variable's condition gives the walks: the table's cells. -/
import Derived.Test.YtgegkjjknlfkpaaDoorBits
import Derived.Test.YtgegkjjknlfkpaaDoorOpen
import Derived.Test.YtgegkjjknlfkpaaDoorReq
import Derived.Test.YtgegkjjknlfkpaaDoorTie
import Derived.ProofKit
import Derived.LaidMore
import Derived.OpenShut
import Derived.Stop.Joined
namespace Go.Proofs.YtgegkjjknlfkpaaDoor
open Go.ChangeShapes Go.WideShapes Go.ChangeAt Go.WideMaps Go.WideElems Go.RowKit
theorem gShifts : Tryd.prog.globalNamed "replevin/access.shifts" = some 0 := by kernel_rfl
theorem tShifts : (Tryd.prog.globals[0]?).map (·.type) = some 67 := by kernel_rfl
def laidV : List (String × DataW Unit) := [("replevin/access.shifts", Rows.laid_replevin_access_shifts)]
theorem door_met (os : Os) (args : Array Value) : laidMetH Tryd.prog laidV ((World.doorLaid Tryd.prog 400 os).forCall (fun _ _ => 0) ⟨#[], args, []⟩).memory :=
  laidMetH_of_parts3 (fuel := 8) (laidMet_of_run' 8 (by kernel_rfl) (by kernel_rfl)) (by kernel_rfl) (by kernel_rfl)
theorem of_laid {W : World} (h : laidMetH Tryd.prog laidV W) : Glob W := by
  rw [MakeChecks.laidMetH_plain _ _ _ (by kernel_rfl)] at h
  obtain ⟨ps, ⟨g1, t1, cs1, f1, p1, q1, hg1, ht1, hv1, hd1, _, _⟩, _, _⟩ := h
  obtain rfl := Option.some.inj (gShifts.symm.trans hg1)
  obtain rfl := Option.some.inj (tShifts.symm.trans ht1)
  obtain ⟨xs, m1, rfl, hx1, hlen, hn3, hel⟩ := DataW.trod_array Tryd.underlying67 hd1
  have c3 : Tryd.prog.cellsOf 3 = 1 := by kernel_rfl
  have h0 := hel 0 (by decide); have h1 := hel 1 (by decide); have h2 := hel 2 (by decide)
  simp only [Rows.laid_replevin_access_shifts, Prod.mk.injEq, DataW.agg.injEq] at hx1
  match xs, hn3, hx1, h0, h1, h2 with
  | [x0, x1, x2], _, hx1, h0, h1, h2 =>
    simp only [List.map_cons, List.map_nil, List.cons.injEq] at hx1
    obtain ⟨k0, a0, b0, _⟩ := DataW.trod_int Tryd.underlying3 (show DataW.trod _ Tryd.prog W 0 _ false m1 3 _ = some x0 from h0)
    obtain ⟨k1, a1, b1, _⟩ := DataW.trod_int Tryd.underlying3 (show DataW.trod _ Tryd.prog W 0 _ false m1 3 _ = some x1 from h1)
    obtain ⟨k2, a2, b2, _⟩ := DataW.trod_int Tryd.underlying3 (show DataW.trod _ Tryd.prog W 0 _ false m1 3 _ = some x2 from h2)
    have hk0 : k0 = 6 := by rw [b0] at hx1; simpa using hx1.1.1.symm
    have hk1 : k1 = 3 := by rw [b1] at hx1; simpa using hx1.1.2.1.symm
    have hk2 : k2 = 0 := by rw [b2] at hx1; simpa using hx1.1.2.2.1.symm
    subst hk0; subst hk1; subst hk2
    have v0 := World.var?_cell hg1 hv1 0
    have v1 := World.var?_cell hg1 hv1 1
    have v2 := World.var?_cell hg1 hv1 2
    obtain ⟨l1⟩ := cs1
    rw [c3] at a0 a1 a2
    match l1, a0, a1, a2 with
    | [y0, y1, y2], a0, a1, a2 =>
      simp at a0 a1 a2
      subst a0; subst a1; subst a2
      have r0 : W.cell? ⟨0, 0, none⟩ = some (.int .i64 6) := by simpa using v0
      exact ⟨r0, by simpa using v1, by simpa using v2, block_lt r0⟩
end Go.Proofs.YtgegkjjknlfkpaaDoor
