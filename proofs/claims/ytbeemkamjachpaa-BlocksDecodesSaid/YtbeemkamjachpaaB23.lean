/- The law's do, by a contract. -/
import Derived.Test.YtbeemkamjachpaaB22
namespace Go.Proofs.Ytbeemkamjachpaa
open Go.RowKit
set_option maxRecDepth 100000
theorem take_u (b s f : Nat) (l : List UInt8) (W : World) (hm : MpAt W b s f l) : Calls Try.prog 19 #[.pointer (some ⟨b, 0, none⟩)] W fun e w' =>
    e = .returned (.tuple #[.int .i64 (takL f l).2.1, .int .i64 ((takL f l).2.2 : Nat)]) ∧ MpAt w' b s f (takL f l).1 ∧ Keep (fun i => i = s) W w' := by
  cases hff : ffree l 0 with
  | none =>
    have ht : takL f l = (l, 0, 26) := by unfold takL; rw [hff]
    rw [ht]
    refine (take_none b s f l W hm hff).mono ?_
    rintro e w' ⟨rfl, hb⟩
    exact ⟨rfl, hm.after hb, Keep.of_below hb⟩
  | some k =>
    have ht : takL f l = (l.set k 2, (f : Int) + (k : Nat), 0) := by unfold takL; rw [hff]
    rw [ht]
    exact take_some b s f l k W hm hff
theorem give_u (b s f : Nat) (l : List UInt8) (x : Int) (W : World) (hm : MpAt W b s f l) (hx : x ≤ 9223372036854775807) : Calls Try.prog 33 #[.pointer (some ⟨b, 0, none⟩), .int .i64 x] W fun e w' =>
    e = .returned (.int .i64 ((givL f l x).2 : Nat)) ∧ MpAt w' b s f (givL f l x).1 ∧ Keep (fun i => i = s) W w' := by
  by_cases hin : inR f l.length x = false
  · have hg : givL f l x = (l, 2) := by unfold givL; rw [if_pos hin]
    rw [hg]
    refine (give_out b s f l x W hm hx hin).mono ?_
    rintro e w' ⟨rfl, hb⟩
    exact ⟨rfl, hm.after hb, Keep.of_below hb⟩
  · obtain ⟨k, hk, rfl⟩ := inR_true (by simpa using hin)
    have ek : ((f : Int) + (k : Nat) - (f : Int)).toNat = k := by omega
    by_cases h1 : (l.getD k 0).toNat = 1
    · have hg : givL f l ((f : Int) + (k : Nat)) = (l.set k 3, 0) := by unfold givL; rw [if_neg hin, ek, if_pos h1]
      rw [hg]
      exact give_ok b s f l k W hm hk 1 h1 rfl
    · by_cases h2 : (l.getD k 0).toNat = 2
      · have hg : givL f l ((f : Int) + (k : Nat)) = (l.set k 0, 0) := by unfold givL; rw [if_neg hin, ek, if_neg h1, if_pos h2]
        rw [hg]
        exact give_ok2 b s f l k W hm hk 2 h2 rfl
      · have hg : givL f l ((f : Int) + (k : Nat)) = (l, 10) := by unfold givL; rw [if_neg hin, ek, if_neg h1, if_neg h2]
        rw [hg]
        refine (give_bad b s f l k W hm hk h1 h2).mono ?_
        rintro e w' ⟨rfl, hb⟩
        exact ⟨rfl, hm.after hb, Keep.of_below hb⟩
theorem rgive_u (f c : Nat) (l : List UInt8) (A : Option Addr) (x : Int) (W : World) (hx : x ≤ 9223372036854775807) (hr : Rd W W.heap.size LI A l.length (RL l)) (hf : f ≤ 1073741824) (hn : l.length ≤ 65536) : Calls Try.prog 42 #[RM f A l.length c, .int .i64 x] W fun e w' =>
    ∃ v, e = .returned (.tuple #[v, .int .i64 ((givL f l x).2 : Nat)]) ∧ RNext W w' A f (givL f l x).1 v ∧ Below W.heap.size W w' := by
  by_cases hin : inR f l.length x = false
  · have hg : givL f l x = (l, 2) := by unfold givL; rw [if_pos hin]
    rw [hg]
    exact rgive_out f c l A x W hx hr hf hn hin
  · obtain ⟨k, hk, rfl⟩ := inR_true (by simpa using hin)
    have ek : ((f : Int) + (k : Nat) - (f : Int)).toNat = k := by omega
    by_cases h1 : (l.getD k 0).toNat = 1
    · have hg : givL f l ((f : Int) + (k : Nat)) = (l.set k 3, 0) := by unfold givL; rw [if_neg hin, ek, if_pos h1]
      rw [hg]
      exact rgive_kept f c l A k W hr hf hn hk h1
    · by_cases h2 : (l.getD k 0).toNat = 2
      · have hg : givL f l ((f : Int) + (k : Nat)) = (l.set k 0, 0) := by unfold givL; rw [if_neg hin, ek, if_neg h1, if_pos h2]
        rw [hg]
        exact rgive_fresh f c l A k W hr hf hn hk h2
      · have hg : givL f l ((f : Int) + (k : Nat)) = (l, 10) := by unfold givL; rw [if_neg hin, ek, if_neg h1, if_neg h2]
        rw [hg]
        exact rgive_bad f c l A k W hr hf hn hk h1 h2
/-- The states behind an operation. -/
def stp (f : Nat) (l : List UInt8) (kd : Nat) (x : Int) : List UInt8 :=
  if kd % 4 = 0 then (takL f l).1 else if kd % 4 = 1 then (givL f l x).1 else if kd % 4 = 2 then l.map (nx [0, 1, 1, 0]) else l.map (nx [0, 1, 0, 1])
set_option maxHeartbeats 2000000 in
theorem do_take (b s f c kd : Nat) (l : List UInt8) (A : Option Addr) (x : Int) (W : World) (hm : MpAt W b s f l) (hr : Rd W W.heap.size LI A l.length (RL l)) (hA : ∀ ad, A = some ad → ad.block ≠ s ∧ ad.block < W.heap.size) (hk : kd % 4 = 0) (hk8 : kd < 256) :
    Calls Try.prog 15 #[.pointer (some ⟨b, 0, none⟩), RM f A l.length c, .agg #[.int .u8 (kd : Nat), .int .i64 x]] W fun e w' =>
    ∃ v, e = .returned (.tuple #[v, .bool true]) ∧ MpAt w' b s f (takL f l).1 ∧ RNext W w' A f (takL f l).1 v ∧ Keep (fun i => i = s) W w' := by
  have q0 : (((kd : Nat) : Int) % 4 == 0) = true := by simp only [beq_iff_eq]; omega
  have hf := hm.f1; have hn := hm.n1; have hlt := hm.lt
  have k0 := ((Blk.new W 28 #[.int .i64 (f : Nat), .slice A l.length c]).alloc (.cells #[.int .u8 (kd : Nat), .int .i64 x] 35)).alloc (.cells #[.int .i64 (f : Nat), .slice A l.length c] 28)
  have k1 := (Blk.new (W.alloc (.cells #[.int .i64 (f : Nat), .slice A l.length c] 28)) 35 #[.int .u8 (kd : Nat), .int .i64 x]).alloc (.cells #[.int .i64 (f : Nat), .slice A l.length c] 28)
  have k2 := Blk.new ((W.alloc (.cells #[.int .i64 (f : Nat), .slice A l.length c] 28)).alloc (.cells #[.int .u8 (kd : Nat), .int .i64 x] 35)) 28 #[.int .i64 (f : Nat), .slice A l.length c]
  simp only [World.size_alloc] at k1 k2
  have hb : Below W.heap.size W (((W.alloc (.cells #[.int .i64 (f : Nat), .slice A l.length c] 28)).alloc (.cells #[.int .u8 (kd : Nat), .int .i64 x] 35)).alloc (.cells #[.int .i64 (f : Nat), .slice A l.length c] 28)) := (((Below.refl _ W).alloc (Nat.le_refl _) _).alloc (by simp) _).alloc (by simp; omega) _
  have hsz : (((W.alloc (.cells #[.int .i64 (f : Nat), .slice A l.length c] 28)).alloc (.cells #[.int .u8 (kd : Nat), .int .i64 x] 35)).alloc (.cells #[.int .i64 (f : Nat), .slice A l.length c] 28)).heap.size = W.heap.size + 3 := by simp
  have M1 := Lib.hid (hm.after hb); have R1 := Lib.hid (hr.after hb); have K0 := Lib.hid k0; have K1 := Lib.hid k1; have K2 := Lib.hid k2; have B1 := Lib.hid hb; have HZ := Lib.hid hsz
  have HA := Lib.hid hA
  unfold RM
  clear hm hr k0 k1 k2 hb hsz hk hA
  generalize htk : takL f l = t
  have HT := Lib.hid htk
  clear htk
  go_enter Try.func15, Try.ntmps15
  go_wp2_with fail
  generalize (((W.alloc (.cells #[.int .i64 (f : Nat), .slice A l.length c] 28)).alloc (.cells #[.int .u8 (kd : Nat), .int .i64 x] 35)).alloc (.cells #[.int .i64 (f : Nat), .slice A l.length c] 28)) = W1 at M1 R1 K0 K1 K2 B1 HZ ⊢
  refine (by have h := take_u b s f l W1 M1.out; rw [HT.out] at h; exact h : Calls Try.prog 19 #[.pointer (some ⟨b, 0, none⟩)] W1 fun e w' => e = .returned (.tuple #[.int .i64 t.2.1, .int .i64 (t.2.2 : Nat)]) ∧ MpAt w' b s f t.1 ∧ Keep (fun i => i = s) W1 w').mono ?_
  rintro e w1 ⟨rfl, hm, hkp⟩
  have hs1 : W.heap.size + 3 ≤ w1.heap.size := by have := hkp.size; have := HZ.out; omega
  have h0 := K0.out.kept hkp (by show ¬ (_ = _); omega); have h1 := K1.out.kept hkp (by show ¬ (_ = _); omega); have h2 := K2.out.kept hkp (by show ¬ (_ = _); omega)
  have hr1 : Rd w1 w1.heap.size LI A l.length (RL l) := (R1.out.kept hkp (Nat.le_refl _) (fun _ ad had hs => (HA.out ad had).1 hs)).more hkp.size
  have c0 : w1.cell? ⟨W.heap.size, 0, none⟩ = some (.int .i64 (f : Nat)) := h0.cell 0
  have c1 : w1.cell? ⟨W.heap.size, 1, none⟩ = some (.slice A l.length c) := h0.cell 1
  have d0 : w1.cell? ⟨W.heap.size + 1, 0, none⟩ = some (.int .u8 (kd : Nat)) := h1.cell 0
  have d1 : w1.cell? ⟨W.heap.size + 1, 1, none⟩ = some (.int .i64 x) := h1.cell 1
  have HM := Lib.hid hm; have HKp := Lib.hid ((Keep.of_below (S := fun i => i = s) (B1.out.mono (Nat.le_refl _))).trans hkp fun _ _ h => h); have HR1 := Lib.hid hr1; have H2 := Lib.hid h2
  clear hm hkp hr1 h0 h1 h2 M1 R1 K0 K1 K2 B1
  go_wp2_with fail
  refine (by have h := rtake_any f c l A w1 HR1.out hf hn; rw [HT.out] at h; exact h : Calls Try.prog 41 #[RM f A l.length c] w1 fun e w' => ∃ v, e = .returned (.tuple #[v, .int .i64 t.2.1, .int .i64 (t.2.2 : Nat)]) ∧ RNext w1 w' A f t.1 v ∧ Below w1.heap.size w1 w').mono ?_
  rintro e w2 ⟨v, rfl, hnx, hb⟩
  obtain ⟨A2, c2, rfl, hr2, ho2⟩ := hnx
  have h2 := H2.out.after hb
  have e0 : w2.cell? ⟨W.heap.size + 1 + 1, 0, none⟩ = some (.int .i64 (f : Nat)) := h2.cell 0
  have e1 : w2.cell? ⟨W.heap.size + 1 + 1, 1, none⟩ = some (.slice A l.length c) := h2.cell 1
  have y0 := h2.frozen 0; have y1 := h2.frozen 1
  have hkp2 := HKp.out.after hb
  have hm2 := HM.out.after hb
  have HX := Lib.hid (show RNext w1 w2 A f t.1 (RM f A2 t.1.length c2) from ⟨A2, c2, rfl, hr2, ho2⟩)
  have HM2 := Lib.hid hm2; have HK2 := Lib.hid hkp2; have HH2 := Lib.hid h2
  clear hb h2 hr2 ho2 hkp2 hm2 HM HKp H2 c0 c1 d0 d1 HR1
  unfold RM
  go_wp2
  have hlt2 : W.heap.size + 1 + 1 < w1.heap.size := by omega
  have hkp4 : Keep (fun i => i = W.heap.size + 1 + 1) w2 ((((w2.setCell ⟨W.heap.size + 1 + 1, 0, none⟩ (.int .i64 (f : Nat))).setCell ⟨W.heap.size + 1 + 1, 1, none⟩ (.slice A2 t.1.length c2)).setCell ⟨W.heap.size + 1 + 1, 0, none⟩ (.int .i64 (f : Nat))).setCell ⟨W.heap.size + 1 + 1, 1, none⟩ (.slice A2 t.1.length c2)) :=
    ((((Keep.refl (fun i => i = W.heap.size + 1 + 1) w2).setCell (p := ⟨W.heap.size + 1 + 1, 0, none⟩) (fun _ => rfl) _).setCell (p := ⟨W.heap.size + 1 + 1, 1, none⟩) (fun _ => rfl) _).setCell (p := ⟨W.heap.size + 1 + 1, 0, none⟩) (fun _ => rfl) _).setCell (p := ⟨W.heap.size + 1 + 1, 1, none⟩) (fun _ => rfl) _
  have hK4 := (((HH2.out.set_ 0 (.int .i64 (f : Nat))).set_ 1 (.slice A2 t.1.length c2)).set_ 0 (.int .i64 (f : Nat))).set_ 1 (.slice A2 t.1.length c2)
  have hKW := (((HK2.out.setCell (p := ⟨W.heap.size + 1 + 1, 0, none⟩) (fun h => absurd h (by show ¬ (W.heap.size + 1 + 1 < W.heap.size); omega)) (.int .i64 (f : Nat))).setCell (p := ⟨W.heap.size + 1 + 1, 1, none⟩) (fun h => absurd h (by show ¬ (W.heap.size + 1 + 1 < W.heap.size); omega)) (.slice A2 t.1.length c2)).setCell (p := ⟨W.heap.size + 1 + 1, 0, none⟩) (fun h => absurd h (by show ¬ (W.heap.size + 1 + 1 < W.heap.size); omega)) (.int .i64 (f : Nat))).setCell (p := ⟨W.heap.size + 1 + 1, 1, none⟩) (fun h => absurd h (by show ¬ (W.heap.size + 1 + 1 < W.heap.size); omega)) (.slice A2 t.1.length c2)
  clear e0 e1 y0 y1
  generalize (((w2.setCell ⟨W.heap.size + 1 + 1, 0, none⟩ (.int .i64 (f : Nat))).setCell ⟨W.heap.size + 1 + 1, 1, none⟩ (.slice A2 t.1.length c2)).setCell ⟨W.heap.size + 1 + 1, 0, none⟩ (.int .i64 (f : Nat))).setCell ⟨W.heap.size + 1 + 1, 1, none⟩ (.slice A2 t.1.length c2) = w4 at hkp4 hK4 hKW ⊢
  have r0 := hK4.cell 0; have r1 := hK4.cell 1
  simp at r0 r1
  refine bodyPost_ret (v := .tuple #[.agg #[.int .i64 (f : Nat), .slice A2 t.1.length c2], .bool true]) (by simp [results, Try.f15, go_sem, r0, r1]) rfl ?_
  exact ⟨_, rfl, HM2.out.kept hkp4 (by show ¬ (_ = _); omega) (by show ¬ (_ = _); omega), HX.out.kept hkp4 hlt2 (by omega) (fun _ ad had hs => by have := (HA.out ad had).2; omega), hKW⟩
set_option maxHeartbeats 2000000 in
theorem do_give (b s f c kd : Nat) (l : List UInt8) (A : Option Addr) (x : Int) (W : World) (hm : MpAt W b s f l) (hr : Rd W W.heap.size LI A l.length (RL l)) (hA : ∀ ad, A = some ad → ad.block ≠ s ∧ ad.block < W.heap.size) (hx : x ≤ 9223372036854775807) (hk : kd % 4 = 1) (hk8 : kd < 256) :
    Calls Try.prog 15 #[.pointer (some ⟨b, 0, none⟩), RM f A l.length c, .agg #[.int .u8 (kd : Nat), .int .i64 x]] W fun e w' =>
    ∃ v, e = .returned (.tuple #[v, .bool true]) ∧ MpAt w' b s f (givL f l x).1 ∧ RNext W w' A f (givL f l x).1 v ∧ Keep (fun i => i = s) W w' := by
  have q0 : (((kd : Nat) : Int) % 4 == 0) = false := by simp only [beq_eq_false_iff_ne, ne_eq]; omega
  have q1 : (((kd : Nat) : Int) % 4 == 1) = true := by simp only [beq_iff_eq]; omega
  have hf := hm.f1; have hn := hm.n1; have hlt := hm.lt
  have k0 := ((Blk.new W 28 #[.int .i64 (f : Nat), .slice A l.length c]).alloc (.cells #[.int .u8 (kd : Nat), .int .i64 x] 35)).alloc (.cells #[.int .i64 (f : Nat), .slice A l.length c] 28)
  have k1 := (Blk.new (W.alloc (.cells #[.int .i64 (f : Nat), .slice A l.length c] 28)) 35 #[.int .u8 (kd : Nat), .int .i64 x]).alloc (.cells #[.int .i64 (f : Nat), .slice A l.length c] 28)
  have k2 := Blk.new ((W.alloc (.cells #[.int .i64 (f : Nat), .slice A l.length c] 28)).alloc (.cells #[.int .u8 (kd : Nat), .int .i64 x] 35)) 28 #[.int .i64 (f : Nat), .slice A l.length c]
  simp only [World.size_alloc] at k1 k2
  have hb : Below W.heap.size W (((W.alloc (.cells #[.int .i64 (f : Nat), .slice A l.length c] 28)).alloc (.cells #[.int .u8 (kd : Nat), .int .i64 x] 35)).alloc (.cells #[.int .i64 (f : Nat), .slice A l.length c] 28)) := (((Below.refl _ W).alloc (Nat.le_refl _) _).alloc (by simp) _).alloc (by simp; omega) _
  have hsz : (((W.alloc (.cells #[.int .i64 (f : Nat), .slice A l.length c] 28)).alloc (.cells #[.int .u8 (kd : Nat), .int .i64 x] 35)).alloc (.cells #[.int .i64 (f : Nat), .slice A l.length c] 28)).heap.size = W.heap.size + 3 := by simp
  have M1 := Lib.hid (hm.after hb); have R1 := Lib.hid (hr.after hb); have K0 := Lib.hid k0; have K1 := Lib.hid k1; have K2 := Lib.hid k2; have B1 := Lib.hid hb; have HZ := Lib.hid hsz
  have HA := Lib.hid hA
  unfold RM
  clear hm hr k0 k1 k2 hb hsz hk hA
  generalize htk : givL f l x = t
  have HT := Lib.hid htk
  clear htk
  go_enter Try.func15, Try.ntmps15
  go_wp2_with fail
  generalize (((W.alloc (.cells #[.int .i64 (f : Nat), .slice A l.length c] 28)).alloc (.cells #[.int .u8 (kd : Nat), .int .i64 x] 35)).alloc (.cells #[.int .i64 (f : Nat), .slice A l.length c] 28)) = W1 at M1 R1 K0 K1 K2 B1 HZ ⊢
  refine (by have h := give_u b s f l x W1 M1.out hx; rw [HT.out] at h; exact h : Calls Try.prog 33 #[.pointer (some ⟨b, 0, none⟩), .int .i64 x] W1 fun e w' => e = .returned (.int .i64 (t.2 : Nat)) ∧ MpAt w' b s f t.1 ∧ Keep (fun i => i = s) W1 w').mono ?_
  rintro e w1 ⟨rfl, hm, hkp⟩
  have hs1 : W.heap.size + 3 ≤ w1.heap.size := by have := hkp.size; have := HZ.out; omega
  have h0 := K0.out.kept hkp (by show ¬ (_ = _); omega); have h1 := K1.out.kept hkp (by show ¬ (_ = _); omega); have h2 := K2.out.kept hkp (by show ¬ (_ = _); omega)
  have hr1 : Rd w1 w1.heap.size LI A l.length (RL l) := (R1.out.kept hkp (Nat.le_refl _) (fun _ ad had hs => (HA.out ad had).1 hs)).more hkp.size
  have c0 : w1.cell? ⟨W.heap.size, 0, none⟩ = some (.int .i64 (f : Nat)) := h0.cell 0
  have c1 : w1.cell? ⟨W.heap.size, 1, none⟩ = some (.slice A l.length c) := h0.cell 1
  have d0 : w1.cell? ⟨W.heap.size + 1, 0, none⟩ = some (.int .u8 (kd : Nat)) := h1.cell 0
  have d1 : w1.cell? ⟨W.heap.size + 1, 1, none⟩ = some (.int .i64 x) := h1.cell 1
  have HM := Lib.hid hm; have HKp := Lib.hid ((Keep.of_below (S := fun i => i = s) (B1.out.mono (Nat.le_refl _))).trans hkp fun _ _ h => h); have HR1 := Lib.hid hr1; have H2 := Lib.hid h2
  clear hm hkp hr1 h0 h1 h2 M1 R1 K0 K1 K2 B1
  go_wp2_with fail
  refine (by have h := rgive_u f c l A x w1 hx HR1.out hf hn; rw [HT.out] at h; exact h : Calls Try.prog 42 #[RM f A l.length c, .int .i64 x] w1 fun e w' => ∃ v, e = .returned (.tuple #[v, .int .i64 (t.2 : Nat)]) ∧ RNext w1 w' A f t.1 v ∧ Below w1.heap.size w1 w').mono ?_
  rintro e w2 ⟨v, rfl, hnx, hb⟩
  obtain ⟨A2, c2, rfl, hr2, ho2⟩ := hnx
  have h2 := H2.out.after hb
  have e0 : w2.cell? ⟨W.heap.size + 1 + 1, 0, none⟩ = some (.int .i64 (f : Nat)) := h2.cell 0
  have e1 : w2.cell? ⟨W.heap.size + 1 + 1, 1, none⟩ = some (.slice A l.length c) := h2.cell 1
  have y0 := h2.frozen 0; have y1 := h2.frozen 1
  have hkp2 := HKp.out.after hb
  have hm2 := HM.out.after hb
  have HX := Lib.hid (show RNext w1 w2 A f t.1 (RM f A2 t.1.length c2) from ⟨A2, c2, rfl, hr2, ho2⟩)
  have HM2 := Lib.hid hm2; have HK2 := Lib.hid hkp2; have HH2 := Lib.hid h2
  clear hb h2 hr2 ho2 hkp2 hm2 HM HKp H2 c0 c1 d0 d1 HR1
  unfold RM
  go_wp2
  have hlt2 : W.heap.size + 1 + 1 < w1.heap.size := by omega
  have hkp4 : Keep (fun i => i = W.heap.size + 1 + 1) w2 ((((w2.setCell ⟨W.heap.size + 1 + 1, 0, none⟩ (.int .i64 (f : Nat))).setCell ⟨W.heap.size + 1 + 1, 1, none⟩ (.slice A2 t.1.length c2)).setCell ⟨W.heap.size + 1 + 1, 0, none⟩ (.int .i64 (f : Nat))).setCell ⟨W.heap.size + 1 + 1, 1, none⟩ (.slice A2 t.1.length c2)) :=
    ((((Keep.refl (fun i => i = W.heap.size + 1 + 1) w2).setCell (p := ⟨W.heap.size + 1 + 1, 0, none⟩) (fun _ => rfl) _).setCell (p := ⟨W.heap.size + 1 + 1, 1, none⟩) (fun _ => rfl) _).setCell (p := ⟨W.heap.size + 1 + 1, 0, none⟩) (fun _ => rfl) _).setCell (p := ⟨W.heap.size + 1 + 1, 1, none⟩) (fun _ => rfl) _
  have hK4 := (((HH2.out.set_ 0 (.int .i64 (f : Nat))).set_ 1 (.slice A2 t.1.length c2)).set_ 0 (.int .i64 (f : Nat))).set_ 1 (.slice A2 t.1.length c2)
  have hKW := (((HK2.out.setCell (p := ⟨W.heap.size + 1 + 1, 0, none⟩) (fun h => absurd h (by show ¬ (W.heap.size + 1 + 1 < W.heap.size); omega)) (.int .i64 (f : Nat))).setCell (p := ⟨W.heap.size + 1 + 1, 1, none⟩) (fun h => absurd h (by show ¬ (W.heap.size + 1 + 1 < W.heap.size); omega)) (.slice A2 t.1.length c2)).setCell (p := ⟨W.heap.size + 1 + 1, 0, none⟩) (fun h => absurd h (by show ¬ (W.heap.size + 1 + 1 < W.heap.size); omega)) (.int .i64 (f : Nat))).setCell (p := ⟨W.heap.size + 1 + 1, 1, none⟩) (fun h => absurd h (by show ¬ (W.heap.size + 1 + 1 < W.heap.size); omega)) (.slice A2 t.1.length c2)
  clear e0 e1 y0 y1
  generalize (((w2.setCell ⟨W.heap.size + 1 + 1, 0, none⟩ (.int .i64 (f : Nat))).setCell ⟨W.heap.size + 1 + 1, 1, none⟩ (.slice A2 t.1.length c2)).setCell ⟨W.heap.size + 1 + 1, 0, none⟩ (.int .i64 (f : Nat))).setCell ⟨W.heap.size + 1 + 1, 1, none⟩ (.slice A2 t.1.length c2) = w4 at hkp4 hK4 hKW ⊢
  have r0 := hK4.cell 0; have r1 := hK4.cell 1
  simp at r0 r1
  refine bodyPost_ret (v := .tuple #[.agg #[.int .i64 (f : Nat), .slice A2 t.1.length c2], .bool true]) (by simp [results, Try.f15, go_sem, r0, r1]) rfl ?_
  exact ⟨_, rfl, HM2.out.kept hkp4 (by show ¬ (_ = _); omega) (by show ¬ (_ = _); omega), HX.out.kept hkp4 hlt2 (by omega) (fun _ ad had hs => by have := (HA.out ad had).2; omega), hKW⟩
set_option maxHeartbeats 2000000 in
theorem do_commit (b s f c kd : Nat) (l : List UInt8) (A : Option Addr) (x : Int) (W : World) (hm : MpAt W b s f l) (hr : Rd W W.heap.size LI A l.length (RL l)) (hA : ∀ ad, A = some ad → ad.block ≠ s ∧ ad.block < W.heap.size) (hs : small l) (hk : kd % 4 = 2) (hk8 : kd < 256) :
    Calls Try.prog 15 #[.pointer (some ⟨b, 0, none⟩), RM f A l.length c, .agg #[.int .u8 (kd : Nat), .int .i64 x]] W fun e w' =>
    ∃ v, e = .returned (.tuple #[v, .bool true]) ∧ MpAt w' b s f (l.map (nx [0, 1, 1, 0])) ∧ RNext W w' A f (l.map (nx [0, 1, 1, 0])) v ∧ Keep (fun i => i = s) W w' := by
  have q0 : (((kd : Nat) : Int) % 4 == 0) = false := by simp only [beq_eq_false_iff_ne, ne_eq]; omega
  have q1 : (((kd : Nat) : Int) % 4 == 1) = false := by simp only [beq_eq_false_iff_ne, ne_eq]; omega
  have q2 : (((kd : Nat) : Int) % 4 == 2) = true := by simp only [beq_iff_eq]; omega
  have hf := hm.f1; have hn := hm.n1; have hlt := hm.lt
  have k0 := ((Blk.new W 28 #[.int .i64 (f : Nat), .slice A l.length c]).alloc (.cells #[.int .u8 (kd : Nat), .int .i64 x] 35)).alloc (.cells #[.int .i64 (f : Nat), .slice A l.length c] 28)
  have k1 := (Blk.new (W.alloc (.cells #[.int .i64 (f : Nat), .slice A l.length c] 28)) 35 #[.int .u8 (kd : Nat), .int .i64 x]).alloc (.cells #[.int .i64 (f : Nat), .slice A l.length c] 28)
  have k2 := Blk.new ((W.alloc (.cells #[.int .i64 (f : Nat), .slice A l.length c] 28)).alloc (.cells #[.int .u8 (kd : Nat), .int .i64 x] 35)) 28 #[.int .i64 (f : Nat), .slice A l.length c]
  simp only [World.size_alloc] at k1 k2
  have hb : Below W.heap.size W (((W.alloc (.cells #[.int .i64 (f : Nat), .slice A l.length c] 28)).alloc (.cells #[.int .u8 (kd : Nat), .int .i64 x] 35)).alloc (.cells #[.int .i64 (f : Nat), .slice A l.length c] 28)) := (((Below.refl _ W).alloc (Nat.le_refl _) _).alloc (by simp) _).alloc (by simp; omega) _
  have hsz : (((W.alloc (.cells #[.int .i64 (f : Nat), .slice A l.length c] 28)).alloc (.cells #[.int .u8 (kd : Nat), .int .i64 x] 35)).alloc (.cells #[.int .i64 (f : Nat), .slice A l.length c] 28)).heap.size = W.heap.size + 3 := by simp
  have M1 := Lib.hid (hm.after hb); have R1 := Lib.hid (hr.after hb); have K0 := Lib.hid k0; have K1 := Lib.hid k1; have K2 := Lib.hid k2; have B1 := Lib.hid hb; have HZ := Lib.hid hsz
  have HA := Lib.hid hA
  unfold RM
  clear hm hr k0 k1 k2 hb hsz hk hA
  have HS := Lib.hid hs
  generalize htk : l.map (nx [0, 1, 1, 0]) = t
  have HT := Lib.hid htk
  clear htk hs
  go_enter Try.func15, Try.ntmps15
  go_wp2_with fail
  generalize (((W.alloc (.cells #[.int .i64 (f : Nat), .slice A l.length c] 28)).alloc (.cells #[.int .u8 (kd : Nat), .int .i64 x] 35)).alloc (.cells #[.int .i64 (f : Nat), .slice A l.length c] 28)) = W1 at M1 R1 K0 K1 K2 B1 HZ ⊢
  refine (by have h := commit_any b s f l W1 M1.out HS.out; rw [HT.out] at h; exact h : Calls Try.prog 27 #[.pointer (some ⟨b, 0, none⟩)] W1 fun e w' => e = .returned (.int .i64 0) ∧ MpAt w' b s f t ∧ Keep (fun i => i = s) W1 w').mono ?_
  rintro e w1 ⟨rfl, hm, hkp⟩
  have hs1 : W.heap.size + 3 ≤ w1.heap.size := by have := hkp.size; have := HZ.out; omega
  have h0 := K0.out.kept hkp (by show ¬ (_ = _); omega); have h1 := K1.out.kept hkp (by show ¬ (_ = _); omega); have h2 := K2.out.kept hkp (by show ¬ (_ = _); omega)
  have hr1 : Rd w1 w1.heap.size LI A l.length (RL l) := (R1.out.kept hkp (Nat.le_refl _) (fun _ ad had hs => (HA.out ad had).1 hs)).more hkp.size
  have c0 : w1.cell? ⟨W.heap.size, 0, none⟩ = some (.int .i64 (f : Nat)) := h0.cell 0
  have c1 : w1.cell? ⟨W.heap.size, 1, none⟩ = some (.slice A l.length c) := h0.cell 1
  have d0 : w1.cell? ⟨W.heap.size + 1, 0, none⟩ = some (.int .u8 (kd : Nat)) := h1.cell 0
  have d1 : w1.cell? ⟨W.heap.size + 1, 1, none⟩ = some (.int .i64 x) := h1.cell 1
  have HM := Lib.hid hm; have HKp := Lib.hid ((Keep.of_below (S := fun i => i = s) (B1.out.mono (Nat.le_refl _))).trans hkp fun _ _ h => h); have HR1 := Lib.hid hr1; have H2 := Lib.hid h2
  clear hm hkp hr1 h0 h1 h2 M1 R1 K0 K1 K2 B1
  go_wp2_with fail
  refine (by have h := rcommit_any f c l A w1 HR1.out hn HS.out; rw [HT.out] at h; exact h : Calls Try.prog 38 #[RM f A l.length c] w1 fun e w' => ∃ v, e = .returned v ∧ RNext w1 w' A f t v ∧ Below w1.heap.size w1 w').mono ?_
  rintro e w2 ⟨v, rfl, hnx, hb⟩
  obtain ⟨A2, c2, rfl, hr2, ho2⟩ := hnx
  have h2 := H2.out.after hb
  have e0 : w2.cell? ⟨W.heap.size + 1 + 1, 0, none⟩ = some (.int .i64 (f : Nat)) := h2.cell 0
  have e1 : w2.cell? ⟨W.heap.size + 1 + 1, 1, none⟩ = some (.slice A l.length c) := h2.cell 1
  have y0 := h2.frozen 0; have y1 := h2.frozen 1
  have hkp2 := HKp.out.after hb
  have hm2 := HM.out.after hb
  have HX := Lib.hid (show RNext w1 w2 A f t (RM f A2 t.length c2) from ⟨A2, c2, rfl, hr2, ho2⟩)
  have HM2 := Lib.hid hm2; have HK2 := Lib.hid hkp2; have HH2 := Lib.hid h2
  clear hb h2 hr2 ho2 hkp2 hm2 HM HKp H2 c0 c1 d0 d1 HR1
  unfold RM
  go_wp2
  have hlt2 : W.heap.size + 1 + 1 < w1.heap.size := by omega
  have hkp4 : Keep (fun i => i = W.heap.size + 1 + 1) w2 ((((w2.setCell ⟨W.heap.size + 1 + 1, 0, none⟩ (.int .i64 (f : Nat))).setCell ⟨W.heap.size + 1 + 1, 1, none⟩ (.slice A2 t.length c2)).setCell ⟨W.heap.size + 1 + 1, 0, none⟩ (.int .i64 (f : Nat))).setCell ⟨W.heap.size + 1 + 1, 1, none⟩ (.slice A2 t.length c2)) :=
    ((((Keep.refl (fun i => i = W.heap.size + 1 + 1) w2).setCell (p := ⟨W.heap.size + 1 + 1, 0, none⟩) (fun _ => rfl) _).setCell (p := ⟨W.heap.size + 1 + 1, 1, none⟩) (fun _ => rfl) _).setCell (p := ⟨W.heap.size + 1 + 1, 0, none⟩) (fun _ => rfl) _).setCell (p := ⟨W.heap.size + 1 + 1, 1, none⟩) (fun _ => rfl) _
  have hK4 := (((HH2.out.set_ 0 (.int .i64 (f : Nat))).set_ 1 (.slice A2 t.length c2)).set_ 0 (.int .i64 (f : Nat))).set_ 1 (.slice A2 t.length c2)
  have hKW := (((HK2.out.setCell (p := ⟨W.heap.size + 1 + 1, 0, none⟩) (fun h => absurd h (by show ¬ (W.heap.size + 1 + 1 < W.heap.size); omega)) (.int .i64 (f : Nat))).setCell (p := ⟨W.heap.size + 1 + 1, 1, none⟩) (fun h => absurd h (by show ¬ (W.heap.size + 1 + 1 < W.heap.size); omega)) (.slice A2 t.length c2)).setCell (p := ⟨W.heap.size + 1 + 1, 0, none⟩) (fun h => absurd h (by show ¬ (W.heap.size + 1 + 1 < W.heap.size); omega)) (.int .i64 (f : Nat))).setCell (p := ⟨W.heap.size + 1 + 1, 1, none⟩) (fun h => absurd h (by show ¬ (W.heap.size + 1 + 1 < W.heap.size); omega)) (.slice A2 t.length c2)
  clear e0 e1 y0 y1
  generalize (((w2.setCell ⟨W.heap.size + 1 + 1, 0, none⟩ (.int .i64 (f : Nat))).setCell ⟨W.heap.size + 1 + 1, 1, none⟩ (.slice A2 t.length c2)).setCell ⟨W.heap.size + 1 + 1, 0, none⟩ (.int .i64 (f : Nat))).setCell ⟨W.heap.size + 1 + 1, 1, none⟩ (.slice A2 t.length c2) = w4 at hkp4 hK4 hKW ⊢
  have r0 := hK4.cell 0; have r1 := hK4.cell 1
  simp at r0 r1
  refine bodyPost_ret (v := .tuple #[.agg #[.int .i64 (f : Nat), .slice A2 t.length c2], .bool true]) (by simp [results, Try.f15, go_sem, r0, r1]) rfl ?_
  exact ⟨_, rfl, HM2.out.kept hkp4 (by show ¬ (_ = _); omega) (by show ¬ (_ = _); omega), HX.out.kept hkp4 hlt2 (by omega) (fun _ ad had hs => by have := (HA.out ad had).2; omega), hKW⟩
set_option maxHeartbeats 2000000 in
theorem do_abort (b s f c kd : Nat) (l : List UInt8) (A : Option Addr) (x : Int) (W : World) (hm : MpAt W b s f l) (hr : Rd W W.heap.size LI A l.length (RL l)) (hA : ∀ ad, A = some ad → ad.block ≠ s ∧ ad.block < W.heap.size) (hs : small l) (hk : kd % 4 = 3) (hk8 : kd < 256) :
    Calls Try.prog 15 #[.pointer (some ⟨b, 0, none⟩), RM f A l.length c, .agg #[.int .u8 (kd : Nat), .int .i64 x]] W fun e w' =>
    ∃ v, e = .returned (.tuple #[v, .bool true]) ∧ MpAt w' b s f (l.map (nx [0, 1, 0, 1])) ∧ RNext W w' A f (l.map (nx [0, 1, 0, 1])) v ∧ Keep (fun i => i = s) W w' := by
  have q0 : (((kd : Nat) : Int) % 4 == 0) = false := by simp only [beq_eq_false_iff_ne, ne_eq]; omega
  have q1 : (((kd : Nat) : Int) % 4 == 1) = false := by simp only [beq_eq_false_iff_ne, ne_eq]; omega
  have q2 : (((kd : Nat) : Int) % 4 == 2) = false := by simp only [beq_eq_false_iff_ne, ne_eq]; omega
  have hf := hm.f1; have hn := hm.n1; have hlt := hm.lt
  have k0 := ((Blk.new W 28 #[.int .i64 (f : Nat), .slice A l.length c]).alloc (.cells #[.int .u8 (kd : Nat), .int .i64 x] 35)).alloc (.cells #[.int .i64 (f : Nat), .slice A l.length c] 28)
  have k1 := (Blk.new (W.alloc (.cells #[.int .i64 (f : Nat), .slice A l.length c] 28)) 35 #[.int .u8 (kd : Nat), .int .i64 x]).alloc (.cells #[.int .i64 (f : Nat), .slice A l.length c] 28)
  have k2 := Blk.new ((W.alloc (.cells #[.int .i64 (f : Nat), .slice A l.length c] 28)).alloc (.cells #[.int .u8 (kd : Nat), .int .i64 x] 35)) 28 #[.int .i64 (f : Nat), .slice A l.length c]
  simp only [World.size_alloc] at k1 k2
  have hb : Below W.heap.size W (((W.alloc (.cells #[.int .i64 (f : Nat), .slice A l.length c] 28)).alloc (.cells #[.int .u8 (kd : Nat), .int .i64 x] 35)).alloc (.cells #[.int .i64 (f : Nat), .slice A l.length c] 28)) := (((Below.refl _ W).alloc (Nat.le_refl _) _).alloc (by simp) _).alloc (by simp; omega) _
  have hsz : (((W.alloc (.cells #[.int .i64 (f : Nat), .slice A l.length c] 28)).alloc (.cells #[.int .u8 (kd : Nat), .int .i64 x] 35)).alloc (.cells #[.int .i64 (f : Nat), .slice A l.length c] 28)).heap.size = W.heap.size + 3 := by simp
  have M1 := Lib.hid (hm.after hb); have R1 := Lib.hid (hr.after hb); have K0 := Lib.hid k0; have K1 := Lib.hid k1; have K2 := Lib.hid k2; have B1 := Lib.hid hb; have HZ := Lib.hid hsz
  have HA := Lib.hid hA
  unfold RM
  clear hm hr k0 k1 k2 hb hsz hk hA
  have HS := Lib.hid hs
  generalize htk : l.map (nx [0, 1, 0, 1]) = t
  have HT := Lib.hid htk
  clear htk hs
  go_enter Try.func15, Try.ntmps15
  go_wp2_with fail
  generalize (((W.alloc (.cells #[.int .i64 (f : Nat), .slice A l.length c] 28)).alloc (.cells #[.int .u8 (kd : Nat), .int .i64 x] 35)).alloc (.cells #[.int .i64 (f : Nat), .slice A l.length c] 28)) = W1 at M1 R1 K0 K1 K2 B1 HZ ⊢
  refine (by have h := abort_any b s f l W1 M1.out HS.out; rw [HT.out] at h; exact h : Calls Try.prog 26 #[.pointer (some ⟨b, 0, none⟩)] W1 fun e w' => e = .returned (.int .i64 0) ∧ MpAt w' b s f t ∧ Keep (fun i => i = s) W1 w').mono ?_
  rintro e w1 ⟨rfl, hm, hkp⟩
  have hs1 : W.heap.size + 3 ≤ w1.heap.size := by have := hkp.size; have := HZ.out; omega
  have h0 := K0.out.kept hkp (by show ¬ (_ = _); omega); have h1 := K1.out.kept hkp (by show ¬ (_ = _); omega); have h2 := K2.out.kept hkp (by show ¬ (_ = _); omega)
  have hr1 : Rd w1 w1.heap.size LI A l.length (RL l) := (R1.out.kept hkp (Nat.le_refl _) (fun _ ad had hs => (HA.out ad had).1 hs)).more hkp.size
  have c0 : w1.cell? ⟨W.heap.size, 0, none⟩ = some (.int .i64 (f : Nat)) := h0.cell 0
  have c1 : w1.cell? ⟨W.heap.size, 1, none⟩ = some (.slice A l.length c) := h0.cell 1
  have d0 : w1.cell? ⟨W.heap.size + 1, 0, none⟩ = some (.int .u8 (kd : Nat)) := h1.cell 0
  have d1 : w1.cell? ⟨W.heap.size + 1, 1, none⟩ = some (.int .i64 x) := h1.cell 1
  have HM := Lib.hid hm; have HKp := Lib.hid ((Keep.of_below (S := fun i => i = s) (B1.out.mono (Nat.le_refl _))).trans hkp fun _ _ h => h); have HR1 := Lib.hid hr1; have H2 := Lib.hid h2
  clear hm hkp hr1 h0 h1 h2 M1 R1 K0 K1 K2 B1
  go_wp2_with fail
  refine (by have h := rabort_any f c l A w1 HR1.out hn HS.out; rw [HT.out] at h; exact h : Calls Try.prog 43 #[RM f A l.length c] w1 fun e w' => ∃ v, e = .returned v ∧ RNext w1 w' A f t v ∧ Below w1.heap.size w1 w').mono ?_
  rintro e w2 ⟨v, rfl, hnx, hb⟩
  obtain ⟨A2, c2, rfl, hr2, ho2⟩ := hnx
  have h2 := H2.out.after hb
  have e0 : w2.cell? ⟨W.heap.size + 1 + 1, 0, none⟩ = some (.int .i64 (f : Nat)) := h2.cell 0
  have e1 : w2.cell? ⟨W.heap.size + 1 + 1, 1, none⟩ = some (.slice A l.length c) := h2.cell 1
  have y0 := h2.frozen 0; have y1 := h2.frozen 1
  have hkp2 := HKp.out.after hb
  have hm2 := HM.out.after hb
  have HX := Lib.hid (show RNext w1 w2 A f t (RM f A2 t.length c2) from ⟨A2, c2, rfl, hr2, ho2⟩)
  have HM2 := Lib.hid hm2; have HK2 := Lib.hid hkp2; have HH2 := Lib.hid h2
  clear hb h2 hr2 ho2 hkp2 hm2 HM HKp H2 c0 c1 d0 d1 HR1
  unfold RM
  go_wp2
  have hlt2 : W.heap.size + 1 + 1 < w1.heap.size := by omega
  have hkp4 : Keep (fun i => i = W.heap.size + 1 + 1) w2 ((((w2.setCell ⟨W.heap.size + 1 + 1, 0, none⟩ (.int .i64 (f : Nat))).setCell ⟨W.heap.size + 1 + 1, 1, none⟩ (.slice A2 t.length c2)).setCell ⟨W.heap.size + 1 + 1, 0, none⟩ (.int .i64 (f : Nat))).setCell ⟨W.heap.size + 1 + 1, 1, none⟩ (.slice A2 t.length c2)) :=
    ((((Keep.refl (fun i => i = W.heap.size + 1 + 1) w2).setCell (p := ⟨W.heap.size + 1 + 1, 0, none⟩) (fun _ => rfl) _).setCell (p := ⟨W.heap.size + 1 + 1, 1, none⟩) (fun _ => rfl) _).setCell (p := ⟨W.heap.size + 1 + 1, 0, none⟩) (fun _ => rfl) _).setCell (p := ⟨W.heap.size + 1 + 1, 1, none⟩) (fun _ => rfl) _
  have hK4 := (((HH2.out.set_ 0 (.int .i64 (f : Nat))).set_ 1 (.slice A2 t.length c2)).set_ 0 (.int .i64 (f : Nat))).set_ 1 (.slice A2 t.length c2)
  have hKW := (((HK2.out.setCell (p := ⟨W.heap.size + 1 + 1, 0, none⟩) (fun h => absurd h (by show ¬ (W.heap.size + 1 + 1 < W.heap.size); omega)) (.int .i64 (f : Nat))).setCell (p := ⟨W.heap.size + 1 + 1, 1, none⟩) (fun h => absurd h (by show ¬ (W.heap.size + 1 + 1 < W.heap.size); omega)) (.slice A2 t.length c2)).setCell (p := ⟨W.heap.size + 1 + 1, 0, none⟩) (fun h => absurd h (by show ¬ (W.heap.size + 1 + 1 < W.heap.size); omega)) (.int .i64 (f : Nat))).setCell (p := ⟨W.heap.size + 1 + 1, 1, none⟩) (fun h => absurd h (by show ¬ (W.heap.size + 1 + 1 < W.heap.size); omega)) (.slice A2 t.length c2)
  clear e0 e1 y0 y1
  generalize (((w2.setCell ⟨W.heap.size + 1 + 1, 0, none⟩ (.int .i64 (f : Nat))).setCell ⟨W.heap.size + 1 + 1, 1, none⟩ (.slice A2 t.length c2)).setCell ⟨W.heap.size + 1 + 1, 0, none⟩ (.int .i64 (f : Nat))).setCell ⟨W.heap.size + 1 + 1, 1, none⟩ (.slice A2 t.length c2) = w4 at hkp4 hK4 hKW ⊢
  have r0 := hK4.cell 0; have r1 := hK4.cell 1
  simp at r0 r1
  refine bodyPost_ret (v := .tuple #[.agg #[.int .i64 (f : Nat), .slice A2 t.length c2], .bool true]) (by simp [results, Try.f15, go_sem, r0, r1]) rfl ?_
  exact ⟨_, rfl, HM2.out.kept hkp4 (by show ¬ (_ = _); omega) (by show ¬ (_ = _); omega), HX.out.kept hkp4 hlt2 (by omega) (fun _ ad had hs => by have := (HA.out ad had).2; omega), hKW⟩
theorem do_any (b s f c kd : Nat) (l : List UInt8) (A : Option Addr) (x : Int) (W : World) (hm : MpAt W b s f l) (hr : Rd W W.heap.size LI A l.length (RL l)) (hA : ∀ ad, A = some ad → ad.block ≠ s ∧ ad.block < W.heap.size) (hs : small l) (hx : x ≤ 9223372036854775807) (hk8 : kd < 256) :
    Calls Try.prog 15 #[.pointer (some ⟨b, 0, none⟩), RM f A l.length c, .agg #[.int .u8 (kd : Nat), .int .i64 x]] W fun e w' =>
    ∃ v, e = .returned (.tuple #[v, .bool true]) ∧ MpAt w' b s f (stp f l kd x) ∧ RNext W w' A f (stp f l kd x) v ∧ Keep (fun i => i = s) W w' := by
  by_cases h0 : kd % 4 = 0
  · have e : stp f l kd x = (takL f l).1 := by unfold stp; rw [if_pos h0]
    rw [e]; exact do_take b s f c kd l A x W hm hr hA h0 hk8
  · by_cases h1 : kd % 4 = 1
    · have e : stp f l kd x = (givL f l x).1 := by unfold stp; rw [if_neg h0, if_pos h1]
      rw [e]; exact do_give b s f c kd l A x W hm hr hA hx h1 hk8
    · by_cases h2 : kd % 4 = 2
      · have e : stp f l kd x = l.map (nx [0, 1, 1, 0]) := by unfold stp; rw [if_neg h0, if_neg h1, if_pos h2]
        rw [e]; exact do_commit b s f c kd l A x W hm hr hA hs h2 hk8
      · have e : stp f l kd x = l.map (nx [0, 1, 0, 1]) := by unfold stp; rw [if_neg h0, if_neg h1, if_neg h2]
        rw [e]; exact do_abort b s f c kd l A x W hm hr hA hs (by omega) hk8
end Go.Proofs.Ytbeemkamjachpaa
