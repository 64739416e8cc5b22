/- The reference's Give, Commit and Abort, by contracts. -/
import Derived.Test.YtbeemkamjachpaaB18
namespace Go.Proofs.Ytbeemkamjachpaa
open Go.RowKit
set_option maxRecDepth 100000
/-- The value of a map of the reference with the states l, its slice the old one or new memory. -/
def RNext (W w' : World) (A : Option Addr) (f : Nat) (l : List UInt8) (v : Value) : Prop :=
  ∃ A' c', v = RM f A' l.length c' ∧ Rd w' w'.heap.size LI A' l.length (RL l) ∧ (A' = A ∨ ∀ ad, A' = some ad → W.heap.size ≤ ad.block)
theorem RNext.same {W w' : World} {A : Option Addr} {f c : Nat} {l : List UInt8} (hr : Rd W W.heap.size LI A l.length (RL l)) (hb : Below W.heap.size W w') : RNext W w' A f l (RM f A l.length c) :=
  ⟨A, c, rfl, hr.after hb, .inl rfl⟩
/-- What Give does. -/
def givL (f : Nat) (l : List UInt8) (x : Int) : List UInt8 × Nat :=
  if inR f l.length x = false then (l, 2) else
  if (l.getD (x - (f : Int)).toNat 0).toNat = 1 then (l.set (x - (f : Int)).toNat 3, 0) else
  if (l.getD (x - (f : Int)).toNat 0).toNat = 2 then (l.set (x - (f : Int)).toNat 0, 0) else (l, 10)
theorem givL_len (f : Nat) (l : List UInt8) (x : Int) : (givL f l x).1.length = l.length := by
  unfold givL
  split
  · rfl
  · split
    · rw [List.length_set]
    · split
      · rw [List.length_set]
      · rfl
/-- A slice of new memory behind stores into block B. -/
theorem RNext.new {W w1 w2 w4 : World} {A A' : Option Addr} {f c' B : Nat} {l : List UInt8} {xs : List Int} (ho : Own w2 w1.heap.size 3 LI (.slice A' l.length c') xs) (hx : xs = RL l) (hk : Keep (fun i => i = B) w2 w4) (hB : B < w1.heap.size) (hW : W.heap.size ≤ w1.heap.size) : RNext W w4 A f l (RM f A' l.length c') := by
  subst hx
  have hfr := ho.from_
  refine ⟨A', c', rfl, (ho.rd.kept hk (Nat.le_refl _) fun _ ad had hs => ?_).more hk.size, .inr fun ad had => ?_⟩
  · have := hfr _ (by rw [had]; rfl)
    omega
  · have := hfr _ (by rw [had]; rfl)
    omega
set_option maxHeartbeats 2000000 in
theorem rgive_out (f c : Nat) (l : List UInt8) (A : Option Addr) (x : Int) (W : World) (hx : x ≤ 9223372036854775807) (hr : Rd W W.heap.size LI A l.length (RL l)) (hf : f ≤ 1073741824) (hn : l.length ≤ 65536) (hin : inR f l.length x = false) : Calls Try.prog 42 #[RM f A l.length c, .int .i64 x] W fun e w' =>
    ∃ v, e = .returned (.tuple #[v, .int .i64 2]) ∧ RNext W w' A f l v ∧ Below W.heap.size W w' := by
  have hb2 := ((Below.refl W.heap.size W).alloc (Nat.le_refl _) (.cells #[.int .i64 (f : Nat), .slice A l.length c] 28)).alloc (by simp) (.cells #[.int .i64 0, .slice none 0 0] 28)
  have k0 := (Blk.new W 28 #[.int .i64 (f : Nat), .slice A l.length c]).alloc (.cells #[.int .i64 0, .slice none 0 0] 28)
  have k1 := Blk.new (W.alloc (.cells #[.int .i64 (f : Nat), .slice A l.length c] 28)) 28 #[.int .i64 0, .slice none 0 0]
  simp only [World.size_alloc] at k1
  have H := Lib.hid (fun w => rstate_out f l.length c A x w hx hf hn hin)
  have HR := Lib.hid hr; have K0 := Lib.hid k0; have K1 := Lib.hid k1; have B2 := Lib.hid hb2
  unfold RM at H ⊢
  clear hr k0 k1 hb2 hin
  go_enter Try.func42, Try.ntmps42
  go_wp2_with fail
  refine (H.out _).mono ?_
  rintro e w1 ⟨rfl, hb⟩
  have h0 := K0.out.after hb; have h1 := K1.out.after hb
  have c0 : w1.cell? ⟨W.heap.size, 0, none⟩ = some (.int .i64 (f : Nat)) := h0.cell 0
  have c1 : w1.cell? ⟨W.heap.size, 1, none⟩ = some (.slice A l.length c) := h0.cell 1
  have e0 : w1.cell? ⟨W.heap.size + 1, 0, none⟩ = some (.int .i64 0) := h1.cell 0
  have e1 : w1.cell? ⟨W.heap.size + 1, 1, none⟩ = some (.slice none 0 0) := h1.cell 1
  have y0 := h1.frozen 0; have y1 := h1.frozen 1
  have HB := Lib.hid (B2.out.trans (hb.mono (by simp; omega))); have HK1 := Lib.hid h1
  clear hb h0 h1 K0 K1 B2 H
  go_wp2
  have hB4 := (HB.out.setCell (p := ⟨W.heap.size + 1, 0, none⟩) (by show W.heap.size ≤ W.heap.size + 1; omega) (.int .i64 (f : Nat))).setCell (p := ⟨W.heap.size + 1, 1, none⟩) (by show W.heap.size ≤ W.heap.size + 1; omega) (.slice A l.length c)
  have hK4 := (HK1.out.set_ 0 (.int .i64 (f : Nat))).set_ 1 (.slice A l.length c)
  clear c0 c1 e0 e1
  generalize (w1.setCell ⟨W.heap.size + 1, 0, none⟩ (.int .i64 (f : Nat))).setCell ⟨W.heap.size + 1, 1, none⟩ (.slice A l.length c) = w4 at hB4 hK4 ⊢
  have r0 := hK4.cell 0; have r1 := hK4.cell 1
  simp at r0 r1
  refine bodyPost_ret (v := .tuple #[.agg #[.int .i64 (f : Nat), .slice A l.length c], .int .i64 2]) (by simp [results, Try.f42, go_sem, r0, r1]) rfl ?_
  exact ⟨_, rfl, RNext.same HR.out hB4, hB4⟩
set_option maxHeartbeats 2000000 in
theorem rgive_kept (f c : Nat) (l : List UInt8) (A : Option Addr) (k : Nat) (W : World) (hr : Rd W W.heap.size LI A l.length (RL l)) (hf : f ≤ 1073741824) (hn : l.length ≤ 65536) (hk : k < l.length) (h1 : (l.getD k 0).toNat = 1) : Calls Try.prog 42 #[RM f A l.length c, .int .i64 ((f : Int) + (k : Nat))] W fun e w' =>
    ∃ v, e = .returned (.tuple #[v, .int .i64 0]) ∧ RNext W w' A f (l.set k 3) v ∧ Below W.heap.size W w' := by
  have hb2 := ((Below.refl W.heap.size W).alloc (Nat.le_refl _) (.cells #[.int .i64 (f : Nat), .slice A l.length c] 28)).alloc (by simp) (.cells #[.int .i64 0, .slice none 0 0] 28)
  have k0 := (Blk.new W 28 #[.int .i64 (f : Nat), .slice A l.length c]).alloc (.cells #[.int .i64 0, .slice none 0 0] 28)
  have k1 := Blk.new (W.alloc (.cells #[.int .i64 (f : Nat), .slice A l.length c] 28)) 28 #[.int .i64 0, .slice none 0 0]
  simp only [World.size_alloc] at k1
  have H := Lib.hid (rstate_in f c l A k ((W.alloc (.cells #[.int .i64 (f : Nat), .slice A l.length c] 28)).alloc (.cells #[.int .i64 0, .slice none 0 0] 28)) (((hr.alloc (Nat.le_refl _) _).alloc (by simp) _).more (by simp; omega)) hf hn hk)
  rw [h1] at H
  clear h1
  have HR := Lib.hid hr; have K0 := Lib.hid k0; have K1 := Lib.hid k1; have B2 := Lib.hid hb2
  unfold RM at H ⊢
  clear hr k0 k1 hb2
  go_enter Try.func42, Try.ntmps42
  go_wp2_with fail
  refine H.out.mono ?_
  rintro e w1 ⟨rfl, hb⟩
  have h0 := K0.out.after hb; have h1 := K1.out.after hb
  have c0 : w1.cell? ⟨W.heap.size, 0, none⟩ = some (.int .i64 (f : Nat)) := h0.cell 0
  have c1 : w1.cell? ⟨W.heap.size, 1, none⟩ = some (.slice A l.length c) := h0.cell 1
  have e0 : w1.cell? ⟨W.heap.size + 1, 0, none⟩ = some (.int .i64 0) := h1.cell 0
  have e1 : w1.cell? ⟨W.heap.size + 1, 1, none⟩ = some (.slice none 0 0) := h1.cell 1
  have y0 := h1.frozen 0; have y1 := h1.frozen 1
  have HB := Lib.hid (B2.out.trans (hb.mono (by simp; omega))); have HK1 := Lib.hid h1
  have HK0 := Lib.hid h0
  clear hb h0 h1 K0 K1 B2 H
  go_wp2_with fail
  refine (with_any f c l A k 3 w1 (HR.out.after HB.out) hf hn hk).mono ?_
  rintro e w2 ⟨A2, c2, rfl, hown, hb⟩
  have h0 := HK0.out.after hb; have h1 := HK1.out.after hb
  clear c0 c1 e0 e1 y0 y1
  have e0 : w2.cell? ⟨W.heap.size + 1, 0, none⟩ = some (.int .i64 0) := h1.cell 0
  have e1 : w2.cell? ⟨W.heap.size + 1, 1, none⟩ = some (.slice none 0 0) := h1.cell 1
  have y0 := h1.frozen 0; have y1 := h1.frozen 1
  have hlt : W.heap.size + 1 < w1.heap.size := HK1.out.lt
  have HB' := Lib.hid (HB.out.trans (hb.mono HB.out.size)); have HK1' := Lib.hid h1; have HO := Lib.hid hown
  clear hb h0 h1 HB HK1 hown HK0
  unfold RM
  go_wp2
  have hB4 := (HB'.out.setCell (p := ⟨W.heap.size + 1, 0, none⟩) (by show W.heap.size ≤ W.heap.size + 1; omega) (.int .i64 (f : Nat))).setCell (p := ⟨W.heap.size + 1, 1, none⟩) (by show W.heap.size ≤ W.heap.size + 1; omega) (.slice A2 l.length c2)
  have hK4 := (HK1'.out.set_ 0 (.int .i64 (f : Nat))).set_ 1 (.slice A2 l.length c2)
  have hkp : Keep (fun i => i = W.heap.size + 1) w2 ((w2.setCell ⟨W.heap.size + 1, 0, none⟩ (.int .i64 (f : Nat))).setCell ⟨W.heap.size + 1, 1, none⟩ (.slice A2 l.length c2)) := ((Keep.refl (fun i => i = W.heap.size + 1) w2).setCell (p := ⟨W.heap.size + 1, 0, none⟩) (fun _ => rfl) _).setCell (p := ⟨W.heap.size + 1, 1, none⟩) (fun _ => rfl) _
  clear e0 e1
  generalize (w2.setCell ⟨W.heap.size + 1, 0, none⟩ (.int .i64 (f : Nat))).setCell ⟨W.heap.size + 1, 1, none⟩ (.slice A2 l.length c2) = w4 at hB4 hK4 hkp ⊢
  have r0 := hK4.cell 0; have r1 := hK4.cell 1
  simp at r0 r1
  refine bodyPost_ret (v := .tuple #[.agg #[.int .i64 (f : Nat), .slice A2 l.length c2], .int .i64 0]) (by simp [results, Try.f42, go_sem, r0, r1]) rfl ?_
  have hS : RNext W w4 A f (l.set k 3) (RM f A2 (l.set k 3).length c2) := RNext.new (by rw [List.length_set]; exact HO.out) (by rw [RL_set]; rfl) hkp hlt (by omega)
  rw [List.length_set] at hS
  exact ⟨_, rfl, hS, hB4⟩
set_option maxHeartbeats 2000000 in
theorem rgive_fresh (f c : Nat) (l : List UInt8) (A : Option Addr) (k : Nat) (W : World) (hr : Rd W W.heap.size LI A l.length (RL l)) (hf : f ≤ 1073741824) (hn : l.length ≤ 65536) (hk : k < l.length) (h1 : (l.getD k 0).toNat = 2) : Calls Try.prog 42 #[RM f A l.length c, .int .i64 ((f : Int) + (k : Nat))] W fun e w' =>
    ∃ v, e = .returned (.tuple #[v, .int .i64 0]) ∧ RNext W w' A f (l.set k 0) v ∧ Below W.heap.size W w' := by
  have hb2 := ((Below.refl W.heap.size W).alloc (Nat.le_refl _) (.cells #[.int .i64 (f : Nat), .slice A l.length c] 28)).alloc (by simp) (.cells #[.int .i64 0, .slice none 0 0] 28)
  have k0 := (Blk.new W 28 #[.int .i64 (f : Nat), .slice A l.length c]).alloc (.cells #[.int .i64 0, .slice none 0 0] 28)
  have k1 := Blk.new (W.alloc (.cells #[.int .i64 (f : Nat), .slice A l.length c] 28)) 28 #[.int .i64 0, .slice none 0 0]
  simp only [World.size_alloc] at k1
  have H := Lib.hid (rstate_in f c l A k ((W.alloc (.cells #[.int .i64 (f : Nat), .slice A l.length c] 28)).alloc (.cells #[.int .i64 0, .slice none 0 0] 28)) (((hr.alloc (Nat.le_refl _) _).alloc (by simp) _).more (by simp; omega)) hf hn hk)
  rw [h1] at H
  clear h1
  have HR := Lib.hid hr; have K0 := Lib.hid k0; have K1 := Lib.hid k1; have B2 := Lib.hid hb2
  unfold RM at H ⊢
  clear hr k0 k1 hb2
  go_enter Try.func42, Try.ntmps42
  go_wp2_with fail
  refine H.out.mono ?_
  rintro e w1 ⟨rfl, hb⟩
  have h0 := K0.out.after hb; have h1 := K1.out.after hb
  have c0 : w1.cell? ⟨W.heap.size, 0, none⟩ = some (.int .i64 (f : Nat)) := h0.cell 0
  have c1 : w1.cell? ⟨W.heap.size, 1, none⟩ = some (.slice A l.length c) := h0.cell 1
  have e0 : w1.cell? ⟨W.heap.size + 1, 0, none⟩ = some (.int .i64 0) := h1.cell 0
  have e1 : w1.cell? ⟨W.heap.size + 1, 1, none⟩ = some (.slice none 0 0) := h1.cell 1
  have y0 := h1.frozen 0; have y1 := h1.frozen 1
  have HB := Lib.hid (B2.out.trans (hb.mono (by simp; omega))); have HK1 := Lib.hid h1
  have HK0 := Lib.hid h0
  clear hb h0 h1 K0 K1 B2 H
  go_wp2_with fail
  refine (with_any f c l A k 0 w1 (HR.out.after HB.out) hf hn hk).mono ?_
  rintro e w2 ⟨A2, c2, rfl, hown, hb⟩
  have h0 := HK0.out.after hb; have h1 := HK1.out.after hb
  clear c0 c1 e0 e1 y0 y1
  have e0 : w2.cell? ⟨W.heap.size + 1, 0, none⟩ = some (.int .i64 0) := h1.cell 0
  have e1 : w2.cell? ⟨W.heap.size + 1, 1, none⟩ = some (.slice none 0 0) := h1.cell 1
  have y0 := h1.frozen 0; have y1 := h1.frozen 1
  have hlt : W.heap.size + 1 < w1.heap.size := HK1.out.lt
  have HB' := Lib.hid (HB.out.trans (hb.mono HB.out.size)); have HK1' := Lib.hid h1; have HO := Lib.hid hown
  clear hb h0 h1 HB HK1 hown HK0
  unfold RM
  go_wp2
  have hB4 := (HB'.out.setCell (p := ⟨W.heap.size + 1, 0, none⟩) (by show W.heap.size ≤ W.heap.size + 1; omega) (.int .i64 (f : Nat))).setCell (p := ⟨W.heap.size + 1, 1, none⟩) (by show W.heap.size ≤ W.heap.size + 1; omega) (.slice A2 l.length c2)
  have hK4 := (HK1'.out.set_ 0 (.int .i64 (f : Nat))).set_ 1 (.slice A2 l.length c2)
  have hkp : Keep (fun i => i = W.heap.size + 1) w2 ((w2.setCell ⟨W.heap.size + 1, 0, none⟩ (.int .i64 (f : Nat))).setCell ⟨W.heap.size + 1, 1, none⟩ (.slice A2 l.length c2)) := ((Keep.refl (fun i => i = W.heap.size + 1) w2).setCell (p := ⟨W.heap.size + 1, 0, none⟩) (fun _ => rfl) _).setCell (p := ⟨W.heap.size + 1, 1, none⟩) (fun _ => rfl) _
  clear e0 e1
  generalize (w2.setCell ⟨W.heap.size + 1, 0, none⟩ (.int .i64 (f : Nat))).setCell ⟨W.heap.size + 1, 1, none⟩ (.slice A2 l.length c2) = w4 at hB4 hK4 hkp ⊢
  have r0 := hK4.cell 0; have r1 := hK4.cell 1
  simp at r0 r1
  refine bodyPost_ret (v := .tuple #[.agg #[.int .i64 (f : Nat), .slice A2 l.length c2], .int .i64 0]) (by simp [results, Try.f42, go_sem, r0, r1]) rfl ?_
  have hS : RNext W w4 A f (l.set k 0) (RM f A2 (l.set k 0).length c2) := RNext.new (by rw [List.length_set]; exact HO.out) (by rw [RL_set]; rfl) hkp hlt (by omega)
  rw [List.length_set] at hS
  exact ⟨_, rfl, hS, hB4⟩
set_option maxHeartbeats 2000000 in
theorem rgive_bad (f c : Nat) (l : List UInt8) (A : Option Addr) (k : Nat) (W : World) (hr : Rd W W.heap.size LI A l.length (RL l)) (hf : f ≤ 1073741824) (hn : l.length ≤ 65536) (hk : k < l.length) (h1 : (l.getD k 0).toNat ≠ 1) (h2 : (l.getD k 0).toNat ≠ 2) : Calls Try.prog 42 #[RM f A l.length c, .int .i64 ((f : Int) + (k : Nat))] W fun e w' =>
    ∃ v, e = .returned (.tuple #[v, .int .i64 10]) ∧ RNext W w' A f l v ∧ Below W.heap.size W w' := by
  have hb2 := ((Below.refl W.heap.size W).alloc (Nat.le_refl _) (.cells #[.int .i64 (f : Nat), .slice A l.length c] 28)).alloc (by simp) (.cells #[.int .i64 0, .slice none 0 0] 28)
  have k0 := (Blk.new W 28 #[.int .i64 (f : Nat), .slice A l.length c]).alloc (.cells #[.int .i64 0, .slice none 0 0] 28)
  have k1 := Blk.new (W.alloc (.cells #[.int .i64 (f : Nat), .slice A l.length c] 28)) 28 #[.int .i64 0, .slice none 0 0]
  simp only [World.size_alloc] at k1
  have H := Lib.hid (rstate_in f c l A k ((W.alloc (.cells #[.int .i64 (f : Nat), .slice A l.length c] 28)).alloc (.cells #[.int .i64 0, .slice none 0 0] 28)) (((hr.alloc (Nat.le_refl _) _).alloc (by simp) _).more (by simp; omega)) hf hn hk)
  generalize (l.getD k 0).toNat = q at H h1 h2
  have e5 : ((q : Int) == 1) = false := by simp; omega
  have e6 : ((q : Int) == 2) = false := by simp; omega
  clear h1 h2
  have HR := Lib.hid hr; have K0 := Lib.hid k0; have K1 := Lib.hid k1; have B2 := Lib.hid hb2
  unfold RM at H ⊢
  clear hr k0 k1 hb2
  go_enter Try.func42, Try.ntmps42
  go_wp2_with fail
  refine H.out.mono ?_
  rintro e w1 ⟨rfl, hb⟩
  have h0 := K0.out.after hb; have h1 := K1.out.after hb
  have c0 : w1.cell? ⟨W.heap.size, 0, none⟩ = some (.int .i64 (f : Nat)) := h0.cell 0
  have c1 : w1.cell? ⟨W.heap.size, 1, none⟩ = some (.slice A l.length c) := h0.cell 1
  have e0 : w1.cell? ⟨W.heap.size + 1, 0, none⟩ = some (.int .i64 0) := h1.cell 0
  have e1 : w1.cell? ⟨W.heap.size + 1, 1, none⟩ = some (.slice none 0 0) := h1.cell 1
  have y0 := h1.frozen 0; have y1 := h1.frozen 1
  have HB := Lib.hid (B2.out.trans (hb.mono (by simp; omega))); have HK1 := Lib.hid h1
  clear hb h0 h1 K0 K1 B2 H
  go_wp2
  have hB4 := (HB.out.setCell (p := ⟨W.heap.size + 1, 0, none⟩) (by show W.heap.size ≤ W.heap.size + 1; omega) (.int .i64 (f : Nat))).setCell (p := ⟨W.heap.size + 1, 1, none⟩) (by show W.heap.size ≤ W.heap.size + 1; omega) (.slice A l.length c)
  have hK4 := (HK1.out.set_ 0 (.int .i64 (f : Nat))).set_ 1 (.slice A l.length c)
  clear c0 c1 e0 e1
  generalize (w1.setCell ⟨W.heap.size + 1, 0, none⟩ (.int .i64 (f : Nat))).setCell ⟨W.heap.size + 1, 1, none⟩ (.slice A l.length c) = w4 at hB4 hK4 ⊢
  have r0 := hK4.cell 0; have r1 := hK4.cell 1
  simp at r0 r1
  refine bodyPost_ret (v := .tuple #[.agg #[.int .i64 (f : Nat), .slice A l.length c], .int .i64 10]) (by simp [results, Try.f42, go_sem, r0, r1]) rfl ?_
  exact ⟨_, rfl, RNext.same HR.out hB4, hB4⟩
end Go.Proofs.Ytbeemkamjachpaa
