/- known, by a contract. -/
import Derived.Test.YtgegkjjknlfkpaaDoorReq2
import Derived.Test.YtgegkjjknlfkpaaDoorText
import Derived.Test.YtgegkjjknlfkpaaDoorApply
namespace Go.Proofs.YtgegkjjknlfkpaaDoor
open Go.RowKit
set_option maxRecDepth 100000
theorem text_488 : textL 488 = [114, 119, 120, 114, 45, 120, 45, 45, 45] := by decide +kernel
theorem apply_420 : applyM 420 [117, 43, 120, 44, 103, 111, 61] = (448, 0, 0) := by decide +kernel
theorem req_8 : reqN 8 [4] 7 3 488 4 = 14 := by decide +kernel
set_option maxHeartbeats 1000000 in
theorem known_any (w : World) (hg : Glob w) : Calls Tryd.prog 10 #[] w fun e w' => e = .returned (.bool true) ∧ Below w.heap.size w w' := by
  have t0 := fun w => text_any 488 w (by decide)
  have a0 := fun w hg => apply_any 420 [117, 43, 120, 44, 103, 111, 61] w hg (by decide)
  rw [text_488] at t0
  rw [apply_420] at a0
  have T0 := Lib.hid t0; have A0 := Lib.hid a0; have HG := Lib.hid hg
  clear t0 a0 hg
  go_enter Tryd.func10, Tryd.ntmps10
  go_wp2_with fail
  refine (T0.out w).mono ?_
  rintro e w1 ⟨rfl, hb1⟩
  have hG1 := HG.out.after HG.out.lt hb1
  have hgl := HG.out.lt
  go_wp2_with fail
  refine (A0.out w1 hG1).mono ?_
  rintro e w2 ⟨rfl, hb2⟩
  have hb02 := hb1.trans (hb2.mono hb1.size)
  have hG2 := HG.out.after HG.out.lt hb02
  have hb03 := hb02.alloc hb02.size (.cells #[.int .i64 4] 3)
  have hG3 := HG.out.after HG.out.lt hb03
  have hrd : Rd (w2.alloc (.cells #[.int .i64 4] 3)) (w2.alloc (.cells #[.int .i64 4] 3)).heap.size LI (some ⟨w2.heap.size, 0, none⟩) 1 [4] := by
    have := (new_own (L := LI) (w := w2) (base := w2.heap.size) (e := 3) (l := [4]) (Nat.le_refl _) (by decide) rfl).rd
    simpa using this
  have HB := Lib.hid hb03; have HG3 := Lib.hid hG3; have HRd := Lib.hid hrd
  clear hb1 hb2 hb02 hG1 hG2 hb03 hG3 hrd
  have hs : (str [114, 119, 120, 114, 45, 120, 45, 45, 45]).toList = [114, 119, 120, 114, 45, 120, 45, 45, 45] := str_toList _
  go_wp2_with fail
  refine (require_any 8 (some ⟨w2.heap.size, 0, none⟩) 1 1 [4] 7 3 488 4 _ HG3.out HRd.out (by decide)).mono ?_
  rintro e w3 ⟨rfl, hb3⟩
  rw [req_8]
  have HB3 := Lib.hid (HB.out.trans (hb3.mono HB.out.size))
  clear hb3 hs
  go_wp2
  go_returns
  exact ⟨rfl, HB3.out⟩
end Go.Proofs.YtgegkjjknlfkpaaDoor
