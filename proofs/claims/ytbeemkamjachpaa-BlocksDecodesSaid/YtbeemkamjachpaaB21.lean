/- The reference's Commit, Abort and Take, by contracts. -/
import Derived.Test.YtbeemkamjachpaaB20
namespace Go.Proofs.Ytbeemkamjachpaa
open Go.RowKit
set_option maxRecDepth 100000
theorem RNext.kept {W w0 w1 w4 : World} {A : Option Addr} {f B : Nat} {l : List UInt8} {v : Value} (h : RNext w0 w1 A f l v) (hk : Keep (fun i => i = B) w1 w4) (hB : B < w0.heap.size) (hW : W.heap.size ≤ w0.heap.size) (hA : 0 < l.length → ∀ ad, A = some ad → ad.block ≠ B) : RNext W w4 A f l v := by
  obtain ⟨A', c', rfl, hr, ho⟩ := h
  refine ⟨A', c', rfl, (hr.kept hk (Nat.le_refl _) fun h0 ad had hs => ?_).more hk.size, ?_⟩
  · rcases ho with rfl | ho
    · exact hA h0 ad had hs
    · have := ho ad had; omega
  · rcases ho with rfl | ho
    · exact .inl rfl
    · exact .inr fun ad had => by have := ho ad had; omega
set_option maxHeartbeats 1000000 in
theorem rcommit_any (f c : Nat) (l : List UInt8) (A : Option Addr) (W : World) (hr : Rd W W.heap.size LI A l.length (RL l)) (hn : l.length ≤ 65536) (hs : small l) : Calls Try.prog 38 #[RM f A l.length c] W fun e w' =>
    ∃ v, e = .returned v ∧ RNext W w' A f (l.map (nx [0, 1, 1, 0])) v ∧ Below W.heap.size W w' := by
  have hb2 := ((Below.refl W.heap.size W).alloc (Nat.le_refl _) (.cells #[.int .i64 (f : Nat), .slice A l.length c] 28)).alloc (by simp) (.cells #[.int .i64 0, .slice none 0 0] 28)
  have k1 := Blk.new (W.alloc (.cells #[.int .i64 (f : Nat), .slice A l.length c] 28)) 28 #[.int .i64 0, .slice none 0 0]
  simp only [World.size_alloc] at k1
  have H := Lib.hid (rchange_any f c l A 1 0 ((W.alloc (.cells #[.int .i64 (f : Nat), .slice A l.length c] 28)).alloc (.cells #[.int .i64 0, .slice none 0 0] 28)) (((hr.alloc (Nat.le_refl _) _).alloc (by simp) _).more (by simp; omega)) hn)
  rw [ch_commit l hs] at H
  have HR := Lib.hid hr; have K1 := Lib.hid k1; have B2 := Lib.hid hb2
  have HL := Lib.hid (show (l.map (nx [0, 1, 1, 0])).length = l.length from List.length_map _)
  generalize l.map (nx [0, 1, 1, 0]) = l' at H HL ⊢
  unfold RM at H ⊢
  clear hr k1 hb2 hs
  go_enter Try.func38, Try.ntmps38
  go_wp2_with fail
  refine H.out.mono ?_
  rintro e w1 ⟨v, rfl, hnx, hb⟩
  obtain ⟨A2, c2, rfl, hr2, ho2⟩ := hnx
  have h1 := K1.out.after hb
  have e0 : w1.cell? ⟨W.heap.size + 1, 0, none⟩ = some (.int .i64 0) := h1.cell 0
  have e1 : w1.cell? ⟨W.heap.size + 1, 1, none⟩ = some (.slice none 0 0) := h1.cell 1
  have y0 := h1.frozen 0; have y1 := h1.frozen 1
  have HX := Lib.hid (show RNext ((W.alloc (.cells #[.int .i64 (f : Nat), .slice A l.length c] 28)).alloc (.cells #[.int .i64 0, .slice none 0 0] 28)) w1 A f l' (RM f A2 l'.length c2) from ⟨A2, c2, rfl, hr2, ho2⟩)
  have HB := Lib.hid (B2.out.trans (hb.mono (by simp; omega))); have HK1 := Lib.hid h1
  clear hb h1 K1 B2 H hr2 ho2
  unfold RM
  go_wp2
  have hB4 := (HB.out.setCell (p := ⟨W.heap.size + 1, 0, none⟩) (by show W.heap.size ≤ W.heap.size + 1; omega) (.int .i64 (f : Nat))).setCell (p := ⟨W.heap.size + 1, 1, none⟩) (by show W.heap.size ≤ W.heap.size + 1; omega) (.slice A2 l'.length c2)
  have hK4 := (HK1.out.set_ 0 (.int .i64 (f : Nat))).set_ 1 (.slice A2 l'.length c2)
  have hkp : Keep (fun i => i = W.heap.size + 1) w1 ((w1.setCell ⟨W.heap.size + 1, 0, none⟩ (.int .i64 (f : Nat))).setCell ⟨W.heap.size + 1, 1, none⟩ (.slice A2 l'.length c2)) := ((Keep.refl (fun i => i = W.heap.size + 1) w1).setCell (p := ⟨W.heap.size + 1, 0, none⟩) (fun _ => rfl) _).setCell (p := ⟨W.heap.size + 1, 1, none⟩) (fun _ => rfl) _
  clear e0 e1
  generalize (w1.setCell ⟨W.heap.size + 1, 0, none⟩ (.int .i64 (f : Nat))).setCell ⟨W.heap.size + 1, 1, none⟩ (.slice A2 l'.length c2) = w4 at hB4 hK4 hkp ⊢
  have r0 := hK4.cell 0; have r1 := hK4.cell 1
  simp at r0 r1
  refine bodyPost_ret (v := .agg #[.int .i64 (f : Nat), .slice A2 l'.length c2]) (by simp [results, Try.f38, go_sem, r0, r1]) rfl ?_
  exact ⟨_, rfl, HX.out.kept hkp (by simp) (by simp; omega) (fun h0 ad had hs => by have := HR.out.lt (by have := HL.out; omega) ad had; omega), hB4⟩
set_option maxHeartbeats 1000000 in
theorem rabort_any (f c : Nat) (l : List UInt8) (A : Option Addr) (W : World) (hr : Rd W W.heap.size LI A l.length (RL l)) (hn : l.length ≤ 65536) (hs : small l) : Calls Try.prog 43 #[RM f A l.length c] W fun e w' =>
    ∃ v, e = .returned v ∧ RNext W w' A f (l.map (nx [0, 1, 0, 1])) v ∧ Below W.heap.size W w' := by
  have hb2 := ((Below.refl W.heap.size W).alloc (Nat.le_refl _) (.cells #[.int .i64 (f : Nat), .slice A l.length c] 28)).alloc (by simp) (.cells #[.int .i64 0, .slice none 0 0] 28)
  have k1 := Blk.new (W.alloc (.cells #[.int .i64 (f : Nat), .slice A l.length c] 28)) 28 #[.int .i64 0, .slice none 0 0]
  simp only [World.size_alloc] at k1
  have H := Lib.hid (rchange_any f c l A 0 1 ((W.alloc (.cells #[.int .i64 (f : Nat), .slice A l.length c] 28)).alloc (.cells #[.int .i64 0, .slice none 0 0] 28)) (((hr.alloc (Nat.le_refl _) _).alloc (by simp) _).more (by simp; omega)) hn)
  rw [ch_abort l hs] at H
  have HR := Lib.hid hr; have K1 := Lib.hid k1; have B2 := Lib.hid hb2
  have HL := Lib.hid (show (l.map (nx [0, 1, 0, 1])).length = l.length from List.length_map _)
  generalize l.map (nx [0, 1, 0, 1]) = l' at H HL ⊢
  unfold RM at H ⊢
  clear hr k1 hb2 hs
  go_enter Try.func43, Try.ntmps43
  go_wp2_with fail
  refine H.out.mono ?_
  rintro e w1 ⟨v, rfl, hnx, hb⟩
  obtain ⟨A2, c2, rfl, hr2, ho2⟩ := hnx
  have h1 := K1.out.after hb
  have e0 : w1.cell? ⟨W.heap.size + 1, 0, none⟩ = some (.int .i64 0) := h1.cell 0
  have e1 : w1.cell? ⟨W.heap.size + 1, 1, none⟩ = some (.slice none 0 0) := h1.cell 1
  have y0 := h1.frozen 0; have y1 := h1.frozen 1
  have HX := Lib.hid (show RNext ((W.alloc (.cells #[.int .i64 (f : Nat), .slice A l.length c] 28)).alloc (.cells #[.int .i64 0, .slice none 0 0] 28)) w1 A f l' (RM f A2 l'.length c2) from ⟨A2, c2, rfl, hr2, ho2⟩)
  have HB := Lib.hid (B2.out.trans (hb.mono (by simp; omega))); have HK1 := Lib.hid h1
  clear hb h1 K1 B2 H hr2 ho2
  unfold RM
  go_wp2
  have hB4 := (HB.out.setCell (p := ⟨W.heap.size + 1, 0, none⟩) (by show W.heap.size ≤ W.heap.size + 1; omega) (.int .i64 (f : Nat))).setCell (p := ⟨W.heap.size + 1, 1, none⟩) (by show W.heap.size ≤ W.heap.size + 1; omega) (.slice A2 l'.length c2)
  have hK4 := (HK1.out.set_ 0 (.int .i64 (f : Nat))).set_ 1 (.slice A2 l'.length c2)
  have hkp : Keep (fun i => i = W.heap.size + 1) w1 ((w1.setCell ⟨W.heap.size + 1, 0, none⟩ (.int .i64 (f : Nat))).setCell ⟨W.heap.size + 1, 1, none⟩ (.slice A2 l'.length c2)) := ((Keep.refl (fun i => i = W.heap.size + 1) w1).setCell (p := ⟨W.heap.size + 1, 0, none⟩) (fun _ => rfl) _).setCell (p := ⟨W.heap.size + 1, 1, none⟩) (fun _ => rfl) _
  clear e0 e1
  generalize (w1.setCell ⟨W.heap.size + 1, 0, none⟩ (.int .i64 (f : Nat))).setCell ⟨W.heap.size + 1, 1, none⟩ (.slice A2 l'.length c2) = w4 at hB4 hK4 hkp ⊢
  have r0 := hK4.cell 0; have r1 := hK4.cell 1
  simp at r0 r1
  refine bodyPost_ret (v := .agg #[.int .i64 (f : Nat), .slice A2 l'.length c2]) (by simp [results, Try.f43, go_sem, r0, r1]) rfl ?_
  exact ⟨_, rfl, HX.out.kept hkp (by simp) (by simp; omega) (fun h0 ad had hs => by have := HR.out.lt (by have := HL.out; omega) ad had; omega), hB4⟩
end Go.Proofs.Ytbeemkamjachpaa
