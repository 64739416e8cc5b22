/- slices.AppendSeq and slices.Collect over the iterator; Used and Old, by contracts. -/
import Derived.Maps.AppendAt
import Derived.RangeFuncBox
import Derived.Test.YtbeemkamjachpaaB8
namespace Go.Proofs.Ytbeemkamjachpaa
open Go.RowKit Go.Shelf
set_option maxRecDepth 100000
attribute [local go_sem] Oper.semAt_some
theorem infoE : (Try.prog.info? 3).map (fun i => (i.zero, i.size, i.bytes)) = some (some (.int .i64 0), 1, 8) := by kernel_rfl
set_option maxHeartbeats 2000000 in
theorem appendSeq_any {f : Nat} {l : List UInt8} {t : List Int} (lb : Array Value) (Sx Sp : List (Bk f l t) → Prop) (Nn : Nat) (W : World)
    (hseq : SeqStopsK Fence.wide 2 Try.prog 66 lb (fun x : Bk f l t => #[Value.int .i64 x.1]) (Keep (fun i => W.heap.size ≤ i)) Sx Sp Nn W) (hN : Nn ≤ 65536) :
    Calls Try.prog 65 #[.slice none 0 0, .func (.func 66) #[] lb] W fun e w' => ∃ A m c, e = .returned (.slice A m c) ∧ (∃ ys, Sx ys ∧ Own w' W.heap.size 3 LI (.slice A m c) (vals ys)) ∧ Below W.heap.size W w' := by
  obtain ⟨i0, hi, hz0, hz1, hz2⟩ := info_parts infoE
  refine callsIn_wide (n := 3).1 ?_
  refine callsIn_of_wp_marks Try.func65 rfl trivial ?_ rfl
  simp only [Try.ntmps65, List.size_toArray, List.length_cons, List.length_nil, Nat.reduceAdd, Nat.reduceSub, Array.replicate_succ, Array.replicate_zero, List.push_toArray, List.append_toArray, List.nil_append, List.cons_append]
  gi_wp2
  have bO := Boxed.new W 26 (.slice none 0 0)
  have hB0 : Below W.heap.size W (W.alloc (.cells #[.slice none 0 0] 26)) := (Below.refl _ W).alloc (Nat.le_refl _) _
  have hvl : ∀ pre : List (Bk f l t), (vals pre).length = pre.length := fun pre => List.length_map _
  refine wpIn_rangeFunc_ownF rfl (by decide) (gf := 66) (lb := lb) rfl trivial (enters_of Try.func66 (by kernel_rfl) rfl)
    hseq keep_t (fun W' l' o o' hl' _ _ _ => keep_put (N := W.heap.size) (fun i hi => hi) W' l' o' (by simp at hl'; omega)) hB0 (fun _ => rfl)
    (fun pre w => (∃ v, Boxed w W.heap.size 26 v ∧ w.ownsRow W.heap.size 3 1 v (vals pre).length ((vals pre).map fun x => Value.int .i64 x) ∧ True) ∧ Below W.heap.size W w)
    (fun _ _ _ => False)
    (OwnFrom.and (Own.from (holdsRow_own W.heap.size W.heap.size 26 3 1 (fun pre => (vals pre).length) (fun pre => (vals pre).map fun x => Value.int .i64 x) (fun _ _ => True)) _) (ownFrom_below (Nat.le_refl _) (by simp)))
    (fun _ _ _ _ _ hs _ _ => hs)
    ⟨⟨_, bO, World.ownsRow_nil _ _ _ _, trivial⟩, hB0⟩
    (fun z => { tmps := #[.slice none 0 0, .func (.func 66) #[] lb, .pointer (some ⟨W.heap.size, 0, none⟩), undef, .slice none 0 0, .int .i64 z.1, .func (.func 66) #[] lb, .int .i64 z.1, undef, undef, undef, undef, undef], defers := [] }) ?assign ?body ?done ?stop
  case assign =>
    intro l' z w K hK
    gi_wp2
    simpa using hK
  case body =>
    rintro l' pre z w ⟨⟨v, hv, hrow, -⟩, hB⟩ hlt
    have hc := hv.cell
    have HPL := Lib.hid (hvl pre)
    have hs : vals (pre ++ [z]) = vals pre ++ [z.1] := vals_snoc pre z
    have HS := Lib.hid hs
    clear hseq hs hvl
    gi_wp2_with (gi_at_builtin; refine wpListIn_append_own _ rfl _ _ 26 rfl W.heap.size 3 i0 (.int .i64 0) 1 8 Try.underlying26 hi hz0 hz1 hz2 rfl (by decide) _ _ _ rfl (hrow.alloc _) ⟨w.heap.size, 0, none⟩ 1 1 [.int .i64 z.1] rfl rfl (cell_one_new _ _ _) (by simp [Value.oneCell']) (by rw [HPL.out]; simp [maxLen]; omega) (by rw [HPL.out]; omega) (by have := hB.size; simp; omega) ?_; intro v' w1 hown' hgrow _; obtain ⟨g', cap', rfl⟩ := ownsRow_succ hown'; obtain ⟨hv1, hv2, hr2, hk2, hb2⟩ := hv.appended (by decide) hrow hB.size (Nat.le_refl _) hown' hgrow; have hc1 := hv1.cell; have hf1 := hv1.frozen)
    exact ⟨hk2, ⟨hb2.os, hb2.tape, hb2.output, hb2.size, fun i hi hn => hb2.block i (by omega)⟩, ⟨_, hv2, by rw [HS.out]; simpa using hr2, trivial⟩, hB.trans hb2⟩
  case done =>
    rintro D ys w hD hys ⟨⟨v, hv, hrow, -⟩, hB⟩ hK
    have hc := hv.cell
    have HY := Lib.hid hys
    clear hys hseq hvl
    gi_wp2
    refine ⟨by simp, .inl ⟨_, _, rfl, run_takeDeferred hK, ?_⟩⟩
    have hown : Own (w.putObj D (.deferred none)) W.heap.size 3 LI v (vals ys) := by
      have h := ownsRow_putObj hrow (.deferred none) hK rfl
      show World.ownsRow _ _ _ _ _ _ _
      rw [LI_all]
      exact h
    obtain ⟨A, m, c, rfl⟩ := hown.sl
    exact ⟨_, results_tmp rfl _ _ _, A, m, c, rfl, ⟨ys, HY.out, hown⟩, hB.trans (belowK_b (w := W) (Nat.le_refl _) w D _ _ (by simp at hD; omega) hK rfl rfl)⟩
  case stop =>
    rintro D c pre W _ _ h _
    exact h.elim
theorem collect_any {f : Nat} {l : List UInt8} {t : List Int} (lb : Array Value) (Sx Sp : List (Bk f l t) → Prop) (Nn : Nat) (W : World)
    (hseq : SeqStopsK Fence.wide 2 Try.prog 66 lb (fun x : Bk f l t => #[Value.int .i64 x.1]) (Keep (fun i => W.heap.size ≤ i)) Sx Sp Nn W) (hN : Nn ≤ 65536) :
    Calls Try.prog 44 #[.func (.func 66) #[] lb] W fun e w' => ∃ A m c, e = .returned (.slice A m c) ∧ (∃ ys, Sx ys ∧ Own w' W.heap.size 3 LI (.slice A m c) (vals ys)) ∧ Below W.heap.size W w' := by
  have H := Lib.hid (appendSeq_any lb Sx Sp Nn W hseq hN)
  clear hseq
  go_enter Try.func44, Try.ntmps44
  go_wp2_with fail
  refine H.out.mono ?_
  rintro e w' ⟨A, m, c, rfl, h1, h2⟩
  have HF := Lib.hid (And.intro h1 h2)
  clear h1 h2 H
  go_wp2
  go_returns
  exact ⟨A, m, c, rfl, HF.out.1, HF.out.2⟩
set_option maxHeartbeats 1000000 in
theorem used_any (b s f : Nat) (l : List UInt8) (W : World) (hm : MpAt W b s f l) : Calls Try.prog 18 #[.pointer (some ⟨b, 0, none⟩)] W fun e w' =>
    ∃ A m c, e = .returned (.slice A m c) ∧ Own w' W.heap.size 3 LI (.slice A m c) (inL f l [1, 2] l.length) ∧ Below W.heap.size W w' := by
  have hI := InW.of (W := W) (w0 := W) (N := W.heap.size) (k := 0) (b := b) [1, 2] (Below.refl _ W) (Nat.le_refl _) (by simp)
  have hH := Lib.hid (show InW W W.heap.size 0 b [1, 2] (((W.alloc (.cells #[.int .i64 1, .int .i64 2] 3)).alloc (.cells #[.pointer (some ⟨b, 0, none⟩)] 25)).alloc (.cells #[.slice (some ⟨W.heap.size, 0, none⟩) 2 2] 26)) from hI)
  have HM := Lib.hid hm
  clear hI
  go_enter Try.func18, Try.ntmps18
  go_wp2_with fail
  refine (in_any _ _ _ _ _).mono ?_
  rintro e w' ⟨rfl, rfl⟩
  go_wp2_with fail
  generalize ((W.alloc (.cells #[.int .i64 1, .int .i64 2] 3)).alloc (.cells #[.pointer (some ⟨b, 0, none⟩)] 25)).alloc (.cells #[.slice (some ⟨W.heap.size, 0, none⟩) 2 2] 26) = w4 at hH ⊢
  refine (collect_any _ _ _ _ w4 ((hH.out.stops HM.out rfl 2 (by decide) (by simp) (fun i => w4.heap.size ≤ i) (fun i hi => by have := hH.out.size; omega))) HM.out.n1).mono ?_
  rintro e w5 ⟨A, m, c, rfl, ⟨ys, hys, hown⟩, hb⟩
  have hb' := hH.out.bel.trans (hb.mono (by have := hH.out.size; omega))
  rw [hys] at hown
  have HF := Lib.hid (And.intro (hown.mono (base' := W.heap.size) (by have := hH.out.size; omega)) hb')
  clear hys hown hb hb' ys
  go_wp2
  go_returns
  exact ⟨A, m, c, rfl, HF.out.1, HF.out.2⟩
set_option maxHeartbeats 1000000 in
theorem old_any (b s f : Nat) (l : List UInt8) (W : World) (hm : MpAt W b s f l) : Calls Try.prog 17 #[.pointer (some ⟨b, 0, none⟩)] W fun e w' =>
    ∃ A m c, e = .returned (.slice A m c) ∧ Own w' W.heap.size 3 LI (.slice A m c) (inL f l [1, 3] l.length) ∧ Below W.heap.size W w' := by
  have hI := InW.of (W := W) (w0 := W) (N := W.heap.size) (k := 0) (b := b) [1, 3] (Below.refl _ W) (Nat.le_refl _) (by simp)
  have hH := Lib.hid (show InW W W.heap.size 0 b [1, 3] (((W.alloc (.cells #[.int .i64 1, .int .i64 3] 3)).alloc (.cells #[.pointer (some ⟨b, 0, none⟩)] 25)).alloc (.cells #[.slice (some ⟨W.heap.size, 0, none⟩) 2 2] 26)) from hI)
  have HM := Lib.hid hm
  clear hI
  go_enter Try.func17, Try.ntmps17
  go_wp2_with fail
  refine (in_any _ _ _ _ _).mono ?_
  rintro e w' ⟨rfl, rfl⟩
  go_wp2_with fail
  generalize ((W.alloc (.cells #[.int .i64 1, .int .i64 3] 3)).alloc (.cells #[.pointer (some ⟨b, 0, none⟩)] 25)).alloc (.cells #[.slice (some ⟨W.heap.size, 0, none⟩) 2 2] 26) = w4 at hH ⊢
  refine (collect_any _ _ _ _ w4 ((hH.out.stops HM.out rfl 2 (by decide) (by simp) (fun i => w4.heap.size ≤ i) (fun i hi => by have := hH.out.size; omega))) HM.out.n1).mono ?_
  rintro e w5 ⟨A, m, c, rfl, ⟨ys, hys, hown⟩, hb⟩
  have hb' := hH.out.bel.trans (hb.mono (by have := hH.out.size; omega))
  rw [hys] at hown
  have HF := Lib.hid (And.intro (hown.mono (base' := W.heap.size) (by have := hH.out.size; omega)) hb')
  clear hys hown hb hb' ys
  go_wp2
  go_returns
  exact ⟨A, m, c, rfl, HF.out.1, HF.out.2⟩
end Go.Proofs.Ytbeemkamjachpaa
