/- Who, by a contract. -/
import Derived.Test.YtgegkjjknlfkpaaDoorReq
import Derived.Deep.RegionHeld3
import Derived.Deep.DeepCutAuto
import Derived.Deep.CutBlock
namespace Go.Proofs.YtgegkjjknlfkpaaDoor
open Go.RowKit
set_option maxRecDepth 100000
theorem ElI : Elem Tryd.prog 22 3 LI.size 8 := Elem.of (z := .int .i64 0) Tryd.underlying22 (by kernel_rfl) rfl
def WhoEnd (u : Int) (k c6 : Nat) (A6 : Option Addr) (l2 : List Int) (w wx : World) : Prop :=
  ∃ A8 c8, Own wx (w.heap.size + 3) 3 LI (.slice A8 k c8) l2 ∧ Own wx (w.heap.size + 3) 3 LI (.slice A6 k c6) l2 ∧ Blk wx (w.heap.size + 1) 28 #[.int .i64 u, .slice A8 k c8] ∧ Blk wx (w.heap.size + 2) 24 #[.int .i64 u, .slice A6 k c6] ∧ Below w.heap.size w wx
theorem who_end {u : Int} {k c6 c8 : Nat} {A6 A8 : Option Addr} {l2 : List Int} {w w7 w8 : World} (hown8 : Own w8 (w.heap.size + 3) 3 LI (.slice A8 (([] : List Int).length + k) c8) ([] ++ l2)) (hb8 : Below w7.heap.size w7 w8)
    (h7 : Own w7 (w.heap.size + 3) 3 LI (.slice A6 k c6) l2) (h27 : Blk w7 (w.heap.size + 1) 28 #[.int .i64 0, .slice none 0 0]) (h37 : Blk w7 (w.heap.size + 2) 24 #[.int .i64 0, .slice none 0 0]) (hb7 : Below w.heap.size w w7) (hs7 : w.heap.size + 3 ≤ w7.heap.size) :
    WhoEnd u k c6 A6 l2 w ((((w8.setCell ⟨w.heap.size + 1, 0, none⟩ (.int .i64 u)).setCell ⟨w.heap.size + 1, 1, none⟩ (.slice A8 k c8)).setCell ⟨w.heap.size + 1 + 1, 0, none⟩ (.int .i64 u)).setCell ⟨w.heap.size + 1 + 1, 1, none⟩ (.slice A6 k c6)) := by
  simp only [List.length_nil, Nat.zero_add, List.nil_append] at hown8
  have hb : Below w.heap.size w w8 := hb7.trans (hb8.mono (by omega))
  refine ⟨A8, c8, (((hown8.setCell (by simp <;> omega) _).setCell (by simp <;> omega) _).setCell (by simp <;> omega) _).setCell (by simp <;> omega) _, ((((h7.after hb8).setCell (by simp <;> omega) _).setCell (by simp <;> omega) _).setCell (by simp <;> omega) _).setCell (by simp <;> omega) _, ?_, ?_, ?_⟩
  · exact (((((h27.after hb8).set_ 0 (.int .i64 u)).set_ 1 (.slice A8 k c8)).far (by show _ ≠ w.heap.size + 1 + 1; omega) _).far (by show _ ≠ w.heap.size + 1 + 1; omega) _)
  · exact (((((h37.after hb8).far (p := ⟨w.heap.size + 1, 0, none⟩) (by show _ ≠ w.heap.size + 1; omega) _).far (p := ⟨w.heap.size + 1, 1, none⟩) (by show _ ≠ w.heap.size + 1; omega) _).set_ 0 (.int .i64 u)).set_ 1 (.slice A6 k c6))
  · exact (((hb.setCell (by simp <;> omega) _).setCell (by simp <;> omega) _).setCell (by simp <;> omega) _).setCell (by simp <;> omega) _
set_option maxHeartbeats 2000000 in
theorem who_any (u : Int) (A : Option Addr) (n c : Nat) (l : List Int) (w : World) (hr : Rd w w.heap.size LI A n l) (hnc : n ≤ c) (hc : c ≤ 9223372036854775807) :
    Calls Tryd.prog 9 #[.agg #[.int .i64 u, .slice A n c]] w fun e w' => ∃ A1 c1 A2 c2, e = .returned (.tuple #[.agg #[.int .i64 u, .slice A1 (l.take 8).length c1], .agg #[.int .i64 u, .slice A2 (l.take 8).length c2]]) ∧
      Own w' w.heap.size 3 LI (.slice A1 (l.take 8).length c1) (l.take 8) ∧ Own w' w.heap.size 3 LI (.slice A2 (l.take 8).length c2) (l.take 8) ∧ Below w.heap.size w w' := by
  have hr2 := hr.upto (k := min n 8) (Nat.min_le_left _ _)
  have hl8 : l.take 8 = l.take (min n 8) := by
    have := hr.len
    rcases Nat.le_total n 8 with h | h
    · rw [Nat.min_eq_left h, List.take_of_length_le (by omega), List.take_of_length_le (by omega)]
    · rw [Nat.min_eq_right h]
  rw [hl8]
  generalize hk : min n 8 = k at hr2
  generalize l.take k = l2 at hr2
  have hk2 : k ≤ 8 ∧ k ≤ n := by omega
  have hlen : l2.length = k := hr2.len
  rw [hlen]
  have hmin2 : min (n : Int) 8 = ((k : Nat) : Int) := by omega
  have hkc : (k : Int) ≤ (c : Int) := by omega
  have hk0 : (0 : Int) ≤ (k : Int) := by omega
  have HR := Lib.hid hr2; have HLen := Lib.hid hlen
  clear hr hr2 hl8 hk hlen
  go_enter Tryd.func9, Tryd.ntmps9
  go_wp2_with (first | (at_builtin; refine ap_any _ (by rfl) _ _ ElI (by rfl) (w.heap.size + 3) (.slice (some ⟨_, 0, none⟩) 0 0) [] (by rfl) ?_ w.heap.size A k c l2 (by rfl) ?_ ?_ ?_ ?_ ?_) | fail)
  case refine_1 =>
    have := new_own (L := LI) (w := ((w.alloc (.cells #[.int .i64 u, .slice A n c] 24)).alloc (.cells #[.int .i64 0, .slice none 0 0] 28)).alloc (.cells #[.int .i64 0, .slice none 0 0] 24)) (base := w.heap.size + 3) (e := 3) (cs := #[]) (l := []) (by simp) (Nat.zero_le _) rfl
    simpa using this
  case refine_2 => exact HR.out.below ((((Below.refl _ _).alloc (Nat.le_refl _) _).alloc (by simp) _).alloc (by simp; omega) _ |>.alloc (by simp; omega) _)
  case refine_3 => simp; omega
  case refine_4 => simp; omega
  case refine_5 => simp
  intro A6 c6 w6 hown6 hg6 _ _ _
  have hbA := ((((Below.refl w.heap.size w).alloc (Nat.le_refl _) (.cells #[.int .i64 u, .slice A n c] 24)).alloc (by simp) (.cells #[.int .i64 0, .slice none 0 0] 28)).alloc (by simp; omega) (.cells #[.int .i64 0, .slice none 0 0] 24)).alloc (by simp; omega) (.cells #[] 3)
  have hb6 : Below w.heap.size w w6 := Below.grown hbA hg6 (by simp; omega) (fun q hq => by simp [Value.ownBlock] at hq; omega)
  have bx6 := ((((Blk.new w 24 #[.int .i64 u, .slice A n c]).alloc (.cells #[.int .i64 0, .slice none 0 0] 28)).alloc (.cells #[.int .i64 0, .slice none 0 0] 24)).alloc (.cells #[] 3)).grown hg6 (by simp [Value.ownBlock]; omega)
  have b2 := (((Blk.new (w.alloc (.cells #[.int .i64 u, .slice A n c] 24)) 28 #[.int .i64 0, .slice none 0 0]).alloc (.cells #[.int .i64 0, .slice none 0 0] 24)).alloc (.cells #[] 3)).grown hg6 (by simp [Value.ownBlock])
  have b3 := ((Blk.new ((w.alloc (.cells #[.int .i64 u, .slice A n c] 24)).alloc (.cells #[.int .i64 0, .slice none 0 0] 28)) 24 #[.int .i64 0, .slice none 0 0]).alloc (.cells #[] 3)).grown hg6 (by simp [Value.ownBlock])
  rw [show (w.alloc (.cells #[.int .i64 u, .slice A n c] 24)).heap.size = w.heap.size + 1 by simp] at b2
  rw [show ((w.alloc (.cells #[.int .i64 u, .slice A n c] 24)).alloc (.cells #[.int .i64 0, .slice none 0 0] 28)).heap.size = w.heap.size + 2 by simp] at b3
  have d0 : w6.cell? ⟨w.heap.size, 0, none⟩ = some (.int .i64 u) := bx6.cell 0
  have d1 : w6.cell? ⟨w.heap.size, 1, none⟩ = some (.slice A n c) := bx6.cell 1
  have f1 := bx6.frozen 1
  go_upto_region 2 with fail
  have bx7 : Blk (w6.setCell ⟨w.heap.size, 1, none⟩ (.slice A6 k c6)) w.heap.size 24 #[.int .i64 u, .slice A6 k c6] := bx6.set_ 1 _
  have b27 := b2.far (p := ⟨w.heap.size, 1, none⟩) (by show w.heap.size + 1 ≠ w.heap.size; omega) (.slice A6 k c6)
  have b37 := b3.far (p := ⟨w.heap.size, 1, none⟩) (by show w.heap.size + 2 ≠ w.heap.size; omega) (.slice A6 k c6)
  have hb7 := hb6.setCell (p := ⟨w.heap.size, 1, none⟩) (Nat.le_refl _) (.slice A6 k c6)
  have hown7 := hown6.setCell (a := ⟨w.heap.size, 1, none⟩) (by show w.heap.size < w.heap.size + 3; omega) (.slice A6 k c6)
  have hs6 : w.heap.size + 3 ≤ w6.heap.size := by have := b3.lt; omega
  have hsz7 : (w6.setCell ⟨w.heap.size, 1, none⟩ (.slice A6 k c6)).heap.size = w6.heap.size := by simp
  generalize w6.setCell ⟨w.heap.size, 1, none⟩ (.slice A6 k c6) = w7 at bx7 b27 b37 hb7 hown7 hsz7 ⊢
  have hs7 : w.heap.size + 3 ≤ w7.heap.size := by omega
  have hbase : ∀ W, Below w7.heap.size w7 W → w.heap.size + 3 ≤ W.heap.size := fun W h => by have := h.size; omega
  have e0 : ∀ W, Below w7.heap.size w7 W → W.cell? ⟨w.heap.size, 0, none⟩ = some (.int .i64 u) ∧ W.cell? ⟨w.heap.size, 1, none⟩ = some (.slice A6 k c6) ∧ W.frozen? ⟨w.heap.size + 1, 0, none⟩ = false ∧ W.frozen? ⟨w.heap.size + 1, 1, none⟩ = false ∧ W.frozen? ⟨w.heap.size + 2, 0, none⟩ = false ∧ W.frozen? ⟨w.heap.size + 2, 1, none⟩ = false := fun W h =>
    ⟨(bx7.after h).cell 0, (bx7.after h).cell 1, (b27.after h).frozen 0, (b27.after h).frozen 1, (b37.after h).frozen 0, (b37.after h).frozen 1⟩
  have E0 := Lib.hid e0; have HO7 := Lib.hid hown7; have HX7 := Lib.hid bx7; have H27 := Lib.hid b27; have H37 := Lib.hid b37; have HB7 := Lib.hid hb7; have HBase := Lib.hid hbase
  clear hsz7 e0 hown7 bx7 b27 b37 hb7 hbase hown6 bx6 b2 b3 hb6 hbA hg6 d0 d1 f1 hs6
  go_cut [] (fun wx => WhoEnd u k c6 A6 l2 w wx)
  case first =>
    have s0 : Below w7.heap.size w7 w7.drew := (Below.refl _ _).drew
    have s1 : ∀ o, Below w7.heap.size w7 (w7.alloc o).drew := fun o => ((Below.refl _ _).alloc (Nat.le_refl _) o).drew
    have S1 := Lib.hid s1
    clear s1
    have o1 : Own ((w7.alloc (.cells #[] 3)).drew) (w.heap.size + 3) 3 LI (.slice (some ⟨w7.heap.size, 0, none⟩) 0 0) [] := new_own (l := []) hs7 (Nat.zero_le _) rfl
    have O1 := Lib.hid o1
    clear o1
    obtain ⟨x0, x1, -, -, -, -⟩ := E0.out _ (Below.refl _ _)
    have y7 : ∀ o, (w7.alloc o).cell? ⟨w.heap.size, 0, none⟩ = some (.int .i64 u) := fun o => (HX7.out.alloc o).cell 0
    have z7 : ∀ o, (w7.alloc o).cell? ⟨w.heap.size, 1, none⟩ = some (.slice A6 k c6) := fun o => (HX7.out.alloc o).cell 1
    go_region_law
      (first
        | (refine step_ap _ (by rfl) _ _ ElI (by rfl) (w.heap.size + 3) (.slice (some ⟨_, 0, none⟩) 0 0) [] (by rfl) ?_ w7.heap.size A6 k c6 l2 (by rfl) (HO7.out.rd.below (S1.out _)) (by simp; omega) (by simp; omega) (HBase.out _ (S1.out _)) ?_; (first | exact O1.out); intro A8 c8 w8 hown8 hg8 _ _ _; have hb8 : Below w7.heap.size w7 w8 := Below.grown (S1.out _) hg8 (by simp) (fun q hq => by simp [Value.ownBlock] at hq; omega); have q0 : w8.cell? ⟨w.heap.size + 1, 0, none⟩ = some (.int .i64 0) := (H27.out.after hb8).cell 0; have q1 : w8.cell? ⟨w.heap.size + 1, 1, none⟩ = some (.slice none 0 0) := (H27.out.after hb8).cell 1; have p0 := (H27.out.after hb8).frozen 0; have p1 := (H27.out.after hb8).frozen 1; have q2 : w8.cell? ⟨w.heap.size + 2, 0, none⟩ = some (.int .i64 0) := (H37.out.after hb8).cell 0; have q3 : w8.cell? ⟨w.heap.size + 2, 1, none⟩ = some (.slice none 0 0) := (H37.out.after hb8).cell 1; have p2 := (H37.out.after hb8).frozen 0; have p3 := (H37.out.after hb8).frozen 1; have y8 : w8.cell? ⟨w.heap.size, 0, none⟩ = some (.int .i64 u) := (HX7.out.after hb8).cell 0; have z8 : w8.cell? ⟨w.heap.size, 1, none⟩ = some (.slice A6 k c6) := (HX7.out.after hb8).cell 1))
    all_goals
      go_wp2
      go_meet
      exact who_end hown8 hb8 HO7.out H27.out H37.out HB7.out hs7
  case rest =>
    obtain ⟨A8, c8, ho8, ho6, hb2, hb3, hbl⟩ := hcut
    have q0 : wc.cell? ⟨w.heap.size + 1, 0, none⟩ = some (.int .i64 u) := hb2.cell 0
    have q1 : wc.cell? ⟨w.heap.size + 1, 1, none⟩ = some (.slice A8 k c8) := hb2.cell 1
    have q2 : wc.cell? ⟨w.heap.size + 2, 0, none⟩ = some (.int .i64 u) := hb3.cell 0
    have q3 : wc.cell? ⟨w.heap.size + 2, 1, none⟩ = some (.slice A6 k c6) := hb3.cell 1
    have hw3 : w.heap.size + 2 < wc.heap.size := hb3.lt
    have HO8 := Lib.hid ho8; have HO6 := Lib.hid ho6; have HBl := Lib.hid hbl
    clear ho8 ho6 hb2 hb3 hbl
    go_wp2
    refine bodyPost_ret (v := .tuple #[.agg #[.int .i64 u, .slice A8 k c8], .agg #[.int .i64 u, .slice A6 k c6]]) (by simp [results, Tryd.results9, go_sem, q0, q1, q2, q3]) rfl ?_
    exact ⟨A8, c8, A6, c6, rfl, HO8.out.mono (by omega), HO6.out.mono (by omega), HBl.out⟩
end Go.Proofs.YtgegkjjknlfkpaaDoor
