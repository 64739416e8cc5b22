/- The operations of a nil map, by contracts. -/
import Derived.Test.YtbeemkamjachpaaB16
namespace Go.Proofs.Ytbeemkamjachpaa
open Go.RowKit Go.Shelf
set_option maxRecDepth 100000
attribute [local go_sem] Oper.semAt_some
theorem first_nil (W : World) : Calls Try.prog 21 #[.pointer none] W fun e w' => e = .returned (.int .i64 0) ∧ W = w' := by
  go_enter Try.func21, Try.ntmps21
  go_wp2
  go_returns
  exact ⟨rfl, rfl⟩
theorem count_nil (W : World) : Calls Try.prog 22 #[.pointer none] W fun e w' => e = .returned (.int .i64 0) ∧ W = w' := by
  go_enter Try.func22, Try.ntmps22
  go_wp2
  go_returns
  exact ⟨rfl, rfl⟩
theorem state_nil (x : Int) (W : World) : Calls Try.prog 24 #[.pointer none, .int .i64 x] W fun e w' => e = .returned (.tuple #[.int .i64 0, .int .i64 1]) ∧ W = w' := by
  go_enter Try.func24, Try.ntmps24
  go_wp2
  go_returns
  exact ⟨rfl, rfl⟩
theorem give_nil (x : Int) (W : World) : Calls Try.prog 33 #[.pointer none, .int .i64 x] W fun e w' => e = .returned (.int .i64 1) ∧ W = w' := by
  go_enter Try.func33, Try.ntmps33
  go_wp2_with fail
  refine (state_nil x W).mono ?_
  rintro e w' ⟨rfl, rfl⟩
  go_wp2
  go_returns
  exact ⟨rfl, rfl⟩
theorem become_nil (v : Array Value) (W : World) : Calls Try.prog 48 #[.pointer none, .agg v] W fun e w' => e = .returned (.int .i64 1) ∧ Below W.heap.size W w' := by
  have HB := Lib.hid ((Below.refl W.heap.size W).alloc (Nat.le_refl _) (.cells v 84))
  go_enter Try.func48, Try.ntmps48
  go_wp2
  go_returns
  exact ⟨rfl, HB.out⟩
theorem commit_nil (W : World) : Calls Try.prog 27 #[.pointer none] W fun e w' => e = .returned (.int .i64 1) ∧ Below W.heap.size W w' := by
  go_enter Try.func27, Try.ntmps27
  go_wp2_with fail
  refine (become_nil _ W).mono ?_
  rintro e w' ⟨rfl, hb⟩
  have HB := Lib.hid hb
  clear hb
  go_wp2
  go_returns
  exact ⟨rfl, HB.out⟩
theorem abort_nil (W : World) : Calls Try.prog 26 #[.pointer none] W fun e w' => e = .returned (.int .i64 1) ∧ Below W.heap.size W w' := by
  go_enter Try.func26, Try.ntmps26
  go_wp2_with fail
  refine (become_nil _ W).mono ?_
  rintro e w' ⟨rfl, hb⟩
  have HB := Lib.hid hb
  clear hb
  go_wp2
  go_returns
  exact ⟨rfl, HB.out⟩
theorem clone_nil (W : World) : Calls Try.prog 25 #[.pointer none] W fun e w' => e = .returned (.pointer none) ∧ W = w' := by
  go_enter Try.func25, Try.ntmps25
  go_wp2
  go_returns
  exact ⟨rfl, rfl⟩
theorem equal_nn (W : World) : Calls Try.prog 32 #[.pointer none, .pointer none] W fun e w' => e = .returned (.bool true) ∧ W = w' := by
  go_enter Try.func32, Try.ntmps32
  go_wp2
  go_returns
  exact ⟨rfl, rfl⟩
theorem equal_nm (b : Nat) (W : World) : Calls Try.prog 32 #[.pointer none, .pointer (some ⟨b, 0, none⟩)] W fun e w' => e = .returned (.bool false) ∧ W = w' := by
  have he : (binOp .eql 25 (.pointer none) (.pointer (some ⟨b, 0, none⟩))).run Try.prog W = .ok (.bool false) W := by kernel_rfl
  go_enter Try.func32, Try.ntmps32
  go_wp2
  refine bodyPost_ret (results_tmp rfl _ _ _) rfl ⟨rfl, rfl⟩
theorem equal_mn (b : Nat) (W : World) : Calls Try.prog 32 #[.pointer (some ⟨b, 0, none⟩), .pointer none] W fun e w' => e = .returned (.bool false) ∧ W = w' := by
  go_enter Try.func32, Try.ntmps32
  go_wp2
  refine bodyPost_ret (results_tmp rfl _ _ _) rfl ⟨rfl, rfl⟩
theorem encode_nil (W : World) : Calls Try.prog 34 #[.pointer none] W fun e w' => e = .returned (.string ⟨#[]⟩) ∧ Below W.heap.size W w' := by
  have HB := Lib.hid ((Below.refl W.heap.size W).alloc (Nat.le_refl _) (.cells #[.pointer none] 25))
  refine callsIn_wide (n := 3).1 ?_
  refine callsIn_of_wp_marks Try.func34 rfl trivial ?_ rfl
  simp only [Try.ntmps34, List.size_toArray, List.length_cons, List.length_nil, Nat.reduceAdd, Nat.reduceSub, Array.replicate_succ, Array.replicate_zero, List.push_toArray, List.append_toArray, List.nil_append, List.cons_append]
  gi_wp2
  exact ⟨_, results_tmp rfl _ _ _, rfl, HB.out⟩
theorem take_nil (W : World) : Calls Try.prog 19 #[.pointer none] W fun e w' => e = .returned (.tuple #[.int .i64 0, .int .i64 1]) ∧ Below W.heap.size W w' := by
  refine callsIn_wide (n := 3).1 ?_
  refine callsIn_of_wp_marks Try.func19 rfl trivial ?_ rfl
  simp only [Try.ntmps19, List.size_toArray, List.length_cons, List.length_nil, Nat.reduceAdd, Nat.reduceSub, Array.replicate_succ, Array.replicate_zero, List.push_toArray, List.append_toArray, List.nil_append, List.cons_append]
  gi_wp2
  refine ⟨.tuple #[.int .i64 0, .int .i64 1], ?_, rfl, (((Below.refl W.heap.size W).alloc (Nat.le_refl _) _).alloc (by simp) _).alloc (by simp; omega) _⟩
  simp [results, Try.f19, go_sem]
theorem in1_nil (n : Nat) (hn : 1 ≤ n) (y B1 B2 : Nat) (Jw : World → Prop) (W : World) (hB1 : W.cell? ⟨B1, 0, none⟩ = some (.pointer none)) (h0 : Jw W) :
    CallsIn Fence.wide n Try.prog 66 #[.func (.yield y) #[] #[], .pointer (some ⟨B1, 0, none⟩), .pointer (some ⟨B2, 0, none⟩)] W fun e W' => (∃ v, e = .returned v) ∧ Jw W' := by
  have HJ := Lib.hid h0
  clear h0
  refine callsIn_of_wp Try.func66 rfl trivial ?_ rfl
  simp only [Try.ntmps66, List.size_toArray, List.length_cons, List.length_nil, Nat.reduceAdd, Nat.reduceSub, Array.replicate_succ, Array.replicate_zero, List.push_toArray, List.append_toArray, List.nil_append, List.cons_append]
  gi_wp2_with (refine ⟨trivial, ?_⟩; gi_at_call 22; refine (callsIn_wide.2 (count_nil W)).mono ?_; rintro e w' ⟨rfl, rfl⟩)
  gi_loopw [7] (fun i wr => i = .int .i64 0 ∧ W = wr) (fun _ _ => 0)
  case atStart => exact ⟨rfl, rfl⟩
  case round =>
    obtain ⟨rfl, rfl⟩ := hrel
    gi_wp2
    go_end0
    exact ⟨⟨_, rfl⟩, HJ.out⟩
theorem in1_nil_stops (n : Nat) (hn : 1 ≤ n) (B1 B2 : Nat) (S : Nat → Prop) (t : List Int) (W : World) (hB1 : W.cell? ⟨B1, 0, none⟩ = some (.pointer none)) :
    SeqStopsK Fence.wide n Try.prog 66 #[.pointer (some ⟨B1, 0, none⟩), .pointer (some ⟨B2, 0, none⟩)] (fun x : Bk 0 [] t => #[Value.int .i64 x.1]) (Keep S) (fun ys => vals ys = []) (fun _ => True) 0 W := fun y J Jx W' hW hJ hJx hY h0 => by
  refine (in1_nil n hn y B1 B2 (J []) W' ((hW.cell (p := ⟨B1, 0, none⟩) (block_lt hB1)).trans hB1) h0).mono ?_
  rintro e w' ⟨hv, hj⟩
  exact ⟨hv, .inl ⟨[], rfl, hj⟩⟩
/-- The world after a call of in with the states t, in which the boxes and the states lie. -/
structure InWn (W : World) (N k : Nat) (t : List Int) (w : World) : Prop where
  size : w.heap.size = N + k + 3
  st : Blk w (N + k) 3 (t.map fun x => Value.int .i64 x).toArray
  b1 : Blk w (N + k + 1) 25 #[.pointer none]
  b2 : Blk w (N + k + 2) 26 #[.slice (some ⟨N + k, 0, none⟩) t.length t.length]
  bel : Below N W w
theorem InWn.of {W w0 : World} {N k : Nat} (t : List Int) (hb : Below N W w0) (hN : N ≤ w0.heap.size) (hk : w0.heap.size = N + k) :
    InWn W N k t (((w0.alloc (.cells (t.map fun x => Value.int .i64 x).toArray 3)).alloc (.cells #[.pointer none] 25)).alloc (.cells #[.slice (some ⟨N + k, 0, none⟩) t.length t.length] 26)) := by
  have h1 := ((Blk.new w0 3 (t.map fun x => Value.int .i64 x).toArray).alloc (.cells #[.pointer none] 25)).alloc (.cells #[.slice (some ⟨N + k, 0, none⟩) t.length t.length] 26)
  have h2 := (Blk.new (w0.alloc (.cells (t.map fun x => Value.int .i64 x).toArray 3)) 25 #[.pointer none]).alloc (.cells #[.slice (some ⟨N + k, 0, none⟩) t.length t.length] 26)
  have h3 := Blk.new ((w0.alloc (.cells (t.map fun x => Value.int .i64 x).toArray 3)).alloc (.cells #[.pointer none] 25)) 26 #[.slice (some ⟨N + k, 0, none⟩) t.length t.length]
  simp only [World.size_alloc, hk] at h1 h2 h3
  exact ⟨by simp only [World.size_alloc, hk], h1, h2, h3, ((hb.alloc hN _).alloc (by simp; omega) _).alloc (by simp; omega) _⟩
set_option maxHeartbeats 2000000 in
theorem number_nil (x : Int) (W : World) : Calls Try.prog 20 #[.pointer none, .int .i64 x] W fun e w' =>
    e = .returned (.int .i64 0) ∧ Below W.heap.size W w' := by
  refine callsIn_wide (n := 3).1 ?_
  refine callsIn_of_wp_marks Try.func20 rfl trivial ?_ rfl
  simp only [Try.ntmps20, List.size_toArray, List.length_cons, List.length_nil, Nat.reduceAdd, Nat.reduceSub, Array.replicate_succ, Array.replicate_zero, List.push_toArray, List.append_toArray, List.nil_append, List.cons_append]
  gi_wp2_with (refine ⟨trivial, ?_⟩; gi_at_call 45; refine (callsIn_wide.2 (in_any _ _ _ _ _)).mono ?_; rintro e w' ⟨rfl, rfl⟩)
  have hI := InWn.of (W := W) (w0 := W.alloc (.cells #[.int .i64 0] 3)) (N := W.heap.size) (k := 1) [x] ((Below.refl _ W).alloc (Nat.le_refl _) _) (by simp) (by simp)
  have hc := (((Blk.new W 3 #[.int .i64 0]).alloc (.cells #[.int .i64 x] 3)).alloc (.cells #[.pointer none] 25)).alloc (.cells #[.slice (some ⟨W.heap.size + 1, 0, none⟩) 1 1] 26)
  change InWn W _ _ [x] ((((W.alloc (.cells #[.int .i64 0] 3)).alloc (.cells #[.int .i64 x] 3)).alloc (.cells #[.pointer none] 25)).alloc (.cells #[.slice (some ⟨W.heap.size + 1, 0, none⟩) 1 1] 26)) at hI
  generalize (((W.alloc (.cells #[.int .i64 0] 3)).alloc (.cells #[.int .i64 x] 3)).alloc (.cells #[.pointer none] 25)).alloc (.cells #[.slice (some ⟨W.heap.size + 1, 0, none⟩) 1 1] 26) = w4 at hI hc ⊢
  have hsz := hI.size
  refine wpIn_rangeFunc_ownF rfl (by decide) (gf := 66) (lb := #[.pointer (some ⟨W.heap.size + 1 + 1, 0, none⟩), .pointer (some ⟨W.heap.size + 1 + 2, 0, none⟩)]) rfl trivial (enters_of Try.func66 (by kernel_rfl) rfl)
    (in1_nil_stops 2 (by decide) _ _ (fun i => i = W.heap.size ∨ W.heap.size + 4 ≤ i) [x] w4 (hI.b1.cell 0)) keep_t (fun W' l' o o' hl' _ _ _ => keep_put (N := W.heap.size + 4) (fun i hi => .inr hi) W' l' o' (by omega)) (Below.refl _ _) (fun _ => rfl)
    (fun pre w => (w.cell? ⟨W.heap.size, 0, none⟩ = some (.int .i64 (pre.length : Nat)) ∧ w.frozen? ⟨W.heap.size, 0, none⟩ = false) ∧ Below W.heap.size W w)
    (fun _ _ _ => False)
    (OwnFrom.and (Own.from (fun s A B row hs hg hr => ⟨cell_kept hs.1 hg hr, (frozen_kept hs.1 hg hr).trans hs.2⟩) _) (ownFrom_below (Nat.le_refl _) (by omega)))
    (fun _ _ _ _ _ hs _ _ => hs)
    ⟨⟨hc.cell 0, hc.frozen 0⟩, hI.bel⟩
    (fun z => { tmps := #[.pointer none, .int .i64 x, undef, undef, .int .i64 0, .pointer (some ⟨W.heap.size, 0, none⟩), .pointer none, .int .i64 x, .slice (some ⟨W.heap.size + 1, 0, none⟩) 1 1, .func (.func 66) #[] #[.pointer (some ⟨W.heap.size + 1 + 1, 0, none⟩), .pointer (some ⟨W.heap.size + 1 + 2, 0, none⟩)], .int .i64 z.1, undef, undef, undef], defers := [] }) ?assign ?body ?done ?stop
  case assign =>
    intro l' z w K hK
    gi_wp2
    simpa using hK
  case body =>
    rintro l' pre z w _ hpl
    exact absurd hpl (Nat.not_lt_zero _)
  case done =>
    rintro D ys w hD hys ⟨⟨hc', _⟩, hB⟩ hK
    have hyl : ys.length = 0 := by have := congrArg List.length hys; simpa [vals] using this
    rw [hyl] at hc'
    have HB := Lib.hid hB
    clear hB hI hc
    gi_wp2
    refine ⟨by simp, .inl ⟨_, _, rfl, run_takeDeferred hK, ?_⟩⟩
    exact ⟨_, results_tmp rfl _ _ _, rfl, HB.out.trans (belowK_b (w := W) (Nat.le_refl _) w D _ _ (by omega) hK rfl rfl)⟩
  case stop =>
    rintro D c pre W _ _ h _
    exact h.elim
set_option maxHeartbeats 1000000 in
theorem used_nil (W : World) : Calls Try.prog 18 #[.pointer none] W fun e w' =>
    ∃ A c, e = .returned (.slice A 0 c) ∧ Below W.heap.size W w' := by
  have hI := InWn.of (W := W) (w0 := W) (N := W.heap.size) (k := 0) [1, 2] (Below.refl _ W) (Nat.le_refl _) (by simp)
  have hH := Lib.hid (show InWn W W.heap.size 0 [1, 2] (((W.alloc (.cells #[.int .i64 1, .int .i64 2] 3)).alloc (.cells #[.pointer none] 25)).alloc (.cells #[.slice (some ⟨W.heap.size, 0, none⟩) 2 2] 26)) from hI)
  clear hI
  go_enter Try.func18, Try.ntmps18
  go_wp2_with fail
  refine (in_any _ _ _ _ _).mono ?_
  rintro e w' ⟨rfl, rfl⟩
  go_wp2_with fail
  generalize ((W.alloc (.cells #[.int .i64 1, .int .i64 2] 3)).alloc (.cells #[.pointer none] 25)).alloc (.cells #[.slice (some ⟨W.heap.size, 0, none⟩) 2 2] 26) = w4 at hH ⊢
  refine (collect_any _ _ _ _ w4 (in1_nil_stops 2 (by decide) _ _ (fun i => w4.heap.size ≤ i) [1, 2] w4 (hH.out.b1.cell 0)) (by decide)).mono ?_
  rintro e w5 ⟨A, m, c, rfl, ⟨ys, hys, hown⟩, hb⟩
  have hb' := hH.out.bel.trans (hb.mono (by have := hH.out.size; omega))
  rw [hys] at hown
  obtain rfl : m = 0 := by have := hown.cap.1; simpa using this.symm
  have HF := Lib.hid hb'
  clear hys hown hb hb' ys
  go_wp2
  go_returns
  exact ⟨A, c, rfl, HF.out⟩
set_option maxHeartbeats 1000000 in
theorem old_nil (W : World) : Calls Try.prog 17 #[.pointer none] W fun e w' =>
    ∃ A c, e = .returned (.slice A 0 c) ∧ Below W.heap.size W w' := by
  have hI := InWn.of (W := W) (w0 := W) (N := W.heap.size) (k := 0) [1, 3] (Below.refl _ W) (Nat.le_refl _) (by simp)
  have hH := Lib.hid (show InWn W W.heap.size 0 [1, 3] (((W.alloc (.cells #[.int .i64 1, .int .i64 3] 3)).alloc (.cells #[.pointer none] 25)).alloc (.cells #[.slice (some ⟨W.heap.size, 0, none⟩) 2 2] 26)) from hI)
  clear hI
  go_enter Try.func17, Try.ntmps17
  go_wp2_with fail
  refine (in_any _ _ _ _ _).mono ?_
  rintro e w' ⟨rfl, rfl⟩
  go_wp2_with fail
  generalize ((W.alloc (.cells #[.int .i64 1, .int .i64 3] 3)).alloc (.cells #[.pointer none] 25)).alloc (.cells #[.slice (some ⟨W.heap.size, 0, none⟩) 2 2] 26) = w4 at hH ⊢
  refine (collect_any _ _ _ _ w4 (in1_nil_stops 2 (by decide) _ _ (fun i => w4.heap.size ≤ i) [1, 3] w4 (hH.out.b1.cell 0)) (by decide)).mono ?_
  rintro e w5 ⟨A, m, c, rfl, ⟨ys, hys, hown⟩, hb⟩
  have hb' := hH.out.bel.trans (hb.mono (by have := hH.out.size; omega))
  rw [hys] at hown
  obtain rfl : m = 0 := by have := hown.cap.1; simpa using this.symm
  have HF := Lib.hid hb'
  clear hys hown hb hb' ys
  go_wp2
  go_returns
  exact ⟨A, c, rfl, HF.out⟩
end Go.Proofs.Ytbeemkamjachpaa
