/- The law's Same, by a contract. -/
import Derived.Test.YtbeemkamjachpaaB23
namespace Go.Proofs.Ytbeemkamjachpaa
open Go.RowKit
set_option maxRecDepth 100000
theorem bl_al {a w : World} (h : Below a.heap.size a w) (o : Obj) : Below a.heap.size a (w.alloc o) := h.alloc h.size o
theorem bl_tr {a w w' : World} (h : Below a.heap.size a w) (k : Below w.heap.size w w') : Below a.heap.size a w' := h.trans (k.mono h.size)
theorem same_self (A1 : Option Addr) (n1 c1 : Nat) (l1 : List Int) (A2 : Option Addr) (n2 c2 : Nat) (W : World) (h1 : Rd W W.heap.size LI A1 n1 l1) (h2 : Rd W W.heap.size LI A2 n2 l1) (hn1 : l1.length ≤ 65536) :
    Calls Try.prog 28 #[.slice A1 n1 c1, .slice A2 n2 c2] W fun e w' => e = .returned (.bool true) ∧ Below W.heap.size W w' := by
  have := same_any A1 n1 c1 l1 A2 n2 c2 l1 W h1 h2 (by have := h1.len; omega)
  simpa using this
set_option maxHeartbeats 40000000 in
theorem Same_any (b s f c : Nat) (l : List UInt8) (A : Option Addr) (W : World) (hm : MpAt W b s f l) (hr : Rd W W.heap.size LI A l.length (RL l)) : Calls Try.prog 14 #[.pointer (some ⟨b, 0, none⟩), RM f A l.length c] W fun e w' =>
    e = .returned (.bool true) ∧ Below W.heap.size W w' := by
  have hf := hm.f1; have hn := hm.n1
  have hb0 := (Below.refl W.heap.size W).alloc (Nat.le_refl _) (.cells #[.int .i64 (f : Nat), .slice A l.length c] 28)
  have k0 := Blk.new W 28 #[.int .i64 (f : Nat), .slice A l.length c]
  have M0 := Lib.hid (hm.after hb0); have R0 := Lib.hid (hr.after hb0); have B0 := Lib.hid hb0; have K0 := Lib.hid k0
  unfold RM
  clear hm hr hb0 k0
  go_enter Try.func14, Try.ntmps14
  go_wp2
  generalize W.alloc (.cells #[.int .i64 (f : Nat), .slice A l.length c] 28) = W1 at M0 R0 B0 K0 ⊢
  have hF : ∀ d, Calls Try.prog 21 #[.pointer (some ⟨b, 0, none⟩)] (W1.drewN d) fun e w' => e = .returned (.int .i64 (f : Nat)) ∧ w' = W1.drewN d := fun d =>
    (first_any b s f l (W1.drewN d) (M0.out.after (below_drewN (Below.refl _ _) d))).mono fun _ _ h => ⟨h.1, h.2.symm⟩
  have hC : ∀ d, Calls Try.prog 22 #[.pointer (some ⟨b, 0, none⟩)] (W1.drewN d) fun e w' => e = .returned (.int .i64 (l.length : Nat)) ∧ w' = W1.drewN d := fun d =>
    (count_any b s f l (W1.drewN d) (M0.out.after (below_drewN (Below.refl _ _) d))).mono fun _ _ h => ⟨h.1, h.2.symm⟩
  have HF := Lib.hid hF; have HC := Lib.hid hC
  have c0 : W1.cell? ⟨W.heap.size, 0, none⟩ = some (.int .i64 (f : Nat)) := K0.out.cell 0
  have c1 : W1.cell? ⟨W.heap.size, 1, none⟩ = some (.slice A l.length c) := K0.out.cell 1
  clear hF hC
  go_quiet ((first | (go_at_call 21; exact Calls.quiet_of_same (HF.out _)) | (go_at_call 22; exact Calls.quiet_of_same (HC.out _))))
  have hb1 := below_drewN (Below.refl W1.heap.size W1) nq
  have M1 := Lib.hid (M0.out.after hb1); have R1 := Lib.hid (R0.out.after hb1); have B1 := Lib.hid (B0.out.trans (hb1.mono B0.out.size)); have K1 := Lib.hid (K0.out.after hb1)
  clear hb1 c0 c1 HF HC M0 R0 B0 K0
  generalize W1.drewN nq = w2 at M1 R1 B1 K1 ⊢
  go_wp2
  go_loopw [5] (fun v wr => ∃ k : Nat, k ≤ l.length ∧ v = .int .i64 (k : Nat) ∧ Below w2.heap.size w2 wr) (fun v _ => l.length - (intOf v).toNat)
  case atStart => exact ⟨0, by omega, rfl, Below.refl _ _⟩
  case round =>
    obtain ⟨k, hk, rfl, hb⟩ := hrel
    have k1 := K1.out.after hb
    have c0 : wr.cell? ⟨W.heap.size, 0, none⟩ = some (.int .i64 (f : Nat)) := k1.cell 0
    have c1 : wr.cell? ⟨W.heap.size, 1, none⟩ = some (.slice A l.length c) := k1.cell 1
    have HB := Lib.hid hb
    by_cases hlt : k < l.length
    · have H := Lib.hid (state_in b s f l k wr (M1.out.after hb) hlt)
      generalize hq : (l.getD k 0).toNat = q at H
      have HQ := Lib.hid hq
      have efk : (f : Int) + (k : Nat) ≤ 9223372036854775807 := by omega
      clear hb k1 hq
      go_wp2_with fail
      refine H.out.mono ?_
      rintro e w3 ⟨rfl, hb3⟩
      have hb4 := bl_tr HB.out hb3
      have k4 := K1.out.after hb4
      obtain ⟨ba, o, y, rfl, -, hy, hc⟩ := (R1.out.after hb4).nth hlt
      have hyq := RL_get l k y hlt hy
      rw [HQ.out] at hyq
      have d0 : w3.cell? ⟨ba, o + k, none⟩ = some (.int .i64 y) := by
        have := hc 0 _ rfl
        simpa [LI] using this
      rw [hyq] at d0
      have g0 : w3.cell? ⟨W.heap.size, 0, none⟩ = some (.int .i64 (f : Nat)) := k4.cell 0
      have g1 : w3.cell? ⟨W.heap.size, 1, none⟩ = some (.slice (some ⟨ba, o, none⟩) l.length c) := k4.cell 1
      have HB4 := Lib.hid hb4
      clear hb3 hb4 k4 hy hc hyq H c0 c1
      go_wp2
      go_roundw
      case rel => exact ⟨k + 1, by omega, by go_num, HB4.out⟩
      case measure => simp [intOf]; omega
    · obtain rfl : k = l.length := by omega
      have M3 := Lib.hid (M1.out.after hb); have R3 := Lib.hid (R1.out.after hb); have B3 := Lib.hid (bl_tr B1.out hb); have K3 := Lib.hid k1
      obtain ⟨w3, rfl⟩ : ∃ w3 : World, w3 = wr := ⟨_, rfl⟩
      clear hb k1 M1 R1 B1 K1 HB c0 c1
      have c0 : w3.cell? ⟨W.heap.size, 0, none⟩ = some (.int .i64 (f : Nat)) := K3.out.cell 0
      have c1 : w3.cell? ⟨W.heap.size, 1, none⟩ = some (.slice A l.length c) := K3.out.cell 1
      go_wp2
      clear c0 c1
      go_loopw [8] (fun v wr => ∃ x : Int, -1 ≤ x ∧ x ≤ 6 ∧ v = .int .i64 x ∧ Below w3.heap.size w3 wr) (fun v _ => (6 - intOf v).toNat)
      case atStart => exact ⟨-1, by omega, by omega, rfl, Below.refl _ _⟩
      case round =>
        obtain ⟨x, hx1, hx2, rfl, hb⟩ := hrel
        by_cases hlt2 : x < 6
        · have e0 : decide (x < 6) = true := decide_eq_true hlt2
          have k1 := K3.out.after hb
          have c0 : wr.cell? ⟨W.heap.size, 0, none⟩ = some (.int .i64 (f : Nat)) := k1.cell 0
          have c1 : wr.cell? ⟨W.heap.size, 1, none⟩ = some (.slice A l.length c) := k1.cell 1
          have HM := Lib.hid (M3.out.after hb); have HR := Lib.hid (R3.out.after hb); have HB := Lib.hid hb
          have hk1 := regrow_call (P := Try.prog) (f := 20) (args := #[.pointer (some ⟨b, 0, none⟩), .int .i64 x]) (w := wr) (v := .int .i64 ((inL f l [x] l.length).length : Nat)) (fun W' hW' => number_any b s f l x W' (HM.out.after hW'))
          have hk2 := regrow_call (P := Try.prog) (f := 39) (args := #[.agg #[.int .i64 (f : Nat), .slice A l.length c], .int .i64 x]) (w := wr) (v := .int .i64 ((inL f l [x] l.length).length : Nat)) (fun W' hW' => rnumber_any f c l A x W' (HR.out.after hW') hn)
          generalize (inL f l [x] l.length).length = q at hk1 hk2
          have H1 := Lib.hid hk1; have H2 := Lib.hid hk2
          have g0 : ∀ d os, (Go.Sort.grow (redrawn wr d) os).cell? ⟨W.heap.size, 0, none⟩ = some (.int .i64 (f : Nat)) := regrow (p := fun W' => W'.cell? ⟨W.heap.size, 0, none⟩ = some (.int .i64 (f : Nat))) fun W' hW' => (k1.after hW').cell 0
          have g1 : ∀ d os, (Go.Sort.grow (redrawn wr d) os).cell? ⟨W.heap.size, 1, none⟩ = some (.slice A l.length c) := regrow (p := fun W' => W'.cell? ⟨W.heap.size, 1, none⟩ = some (.slice A l.length c)) fun W' hW' => (k1.after hW').cell 1
          clear hk1 hk2 hb k1
          go_wp2
          refine wp_region_quiet_below (by kernel_rfl) (by kernel_rfl) ?_
          repeat (go_big_quiet_step (first | exact H1.out _ _ | exact H2.out _ _))
          refine wpQuiet_nil ?_
          rintro _ ⟨⟨dq, osq⟩, rfl⟩
          have hb5 := bl_tr HB.out (below_regrown wr dq osq)
          have HB5 := Lib.hid hb5
          clear hb5 c0 c1 g0 g1
          generalize Go.Sort.grow (redrawn wr dq) osq = w5 at HB5 ⊢
          go_wp2
          go_roundw
          case rel => exact ⟨x + 1, by omega, by omega, by go_num, HB5.out⟩
          case measure => simp [intOf]; omega
        · have e0 : decide (x < 6) = false := decide_eq_false hlt2
          obtain ⟨w4, rfl⟩ : ∃ w4 : World, w4 = wr := ⟨_, rfl⟩
          have M4 := Lib.hid (M3.out.after hb); have R4 := Lib.hid (R3.out.after hb); have B4 := Lib.hid (bl_tr B3.out hb); have K4 := Lib.hid (K3.out.after hb)
          clear hb M3 R3 B3 K3
          go_wp2
          have hU : ∀ W', Below w4.heap.size w4 W' → Calls Try.prog 18 #[.pointer (some ⟨b, 0, none⟩)] W' fun e w' => ∃ A m c, e = .returned (.slice A m c) ∧ Own w' W'.heap.size 3 LI (.slice A m c) (inL f l [1, 2] l.length) ∧ Below W'.heap.size W' w' := fun W' h => used_any b s f l W' (M4.out.after h)
          have hO : ∀ W', Below w4.heap.size w4 W' → Calls Try.prog 17 #[.pointer (some ⟨b, 0, none⟩)] W' fun e w' => ∃ A m c, e = .returned (.slice A m c) ∧ Own w' W'.heap.size 3 LI (.slice A m c) (inL f l [1, 3] l.length) ∧ Below W'.heap.size W' w' := fun W' h => old_any b s f l W' (M4.out.after h)
          have hL : ∀ W', Below w4.heap.size w4 W' → Calls Try.prog 40 #[.agg #[.int .i64 (f : Nat), .slice A l.length c], .int .i64 1, .int .i64 2] W' fun e w' => ∃ A m c, e = .returned (.slice A m c) ∧ Own w' W'.heap.size 3 LI (.slice A m c) (inL f l [1, 2] l.length) ∧ Below W'.heap.size W' w' := fun W' h => rlist_any f c l A 1 2 W' (R4.out.after h) hf hn
          have hM : ∀ W', Below w4.heap.size w4 W' → Calls Try.prog 40 #[.agg #[.int .i64 (f : Nat), .slice A l.length c], .int .i64 1, .int .i64 3] W' fun e w' => ∃ A m c, e = .returned (.slice A m c) ∧ Own w' W'.heap.size 3 LI (.slice A m c) (inL f l [1, 3] l.length) ∧ Below W'.heap.size W' w' := fun W' h => rlist_any f c l A 1 3 W' (R4.out.after h) hf hn
          have l12 : (inL f l [1, 2] l.length).length ≤ 65536 := Nat.le_trans (inL_len f l [1, 2] l.length) hn
          have l13 : (inL f l [1, 3] l.length).length ≤ 65536 := Nat.le_trans (inL_len f l [1, 3] l.length) hn
          generalize inL f l [1, 2] l.length = L12 at hU hL l12
          generalize inL f l [1, 3] l.length = L13 at hO hM l13
          have HU := Lib.hid hU; have HO := Lib.hid hO; have HL := Lib.hid hL; have HM := Lib.hid hM; have H12 := Lib.hid l12; have H13 := Lib.hid l13
          have k0 : Below w4.heap.size w4 w4.drew := (Below.refl _ _).drew
          have hc0 : ∀ W', Below w4.heap.size w4 W' → W'.cell? ⟨W.heap.size, 0, none⟩ = some (.int .i64 (f : Nat)) := fun W' h => (K4.out.after h).cell 0
          have hc1 : ∀ W', Below w4.heap.size w4 W' → W'.cell? ⟨W.heap.size, 1, none⟩ = some (.slice A l.length c) := fun W' h => (K4.out.after h).cell 1
          clear hU hO hL hM l12 l13 M4 R4 K4
          go_cut [4] (fun v4 wx => v4 = .bool true ∧ Below w4.heap.size w4 wx)
          case first =>
            go_region_held3 (fun W' => Below w4.heap.size w4 W')
              (first
                | assumption
                | exact k0
                | exact bl_tr (by assumption) hbT
                | exact bl_tr (by assumption) hbO
                | exact bl_tr (by assumption) hbM
                | exact bl_tr (by assumption) hbS
                | exact bl_tr (by assumption) hbU
                | exact bl_tr (by assumption) hbL)
              (first
                | (go_at_call 18; refine (HU.out _ (by assumption)).mono ?_; rintro e wU ⟨A1, n1, c1, rfl, hownU, hbU⟩)
                | (go_at_call 17; refine (HO.out _ (by assumption)).mono ?_; rintro e wO ⟨A3, n3, c3, rfl, hownO, hbO⟩)
                | (go_at_call 40; with_reducible refine (HL.out _ (by assumption)).mono ?_; rintro e wL ⟨A2, n2, c2, rfl, hownL, hbL⟩)
                | (go_at_call 40; refine (HM.out _ (by assumption)).mono ?_; rintro e wM ⟨A4, n4, c4, rfl, hownM, hbM⟩)
                | (go_at_call 28; refine (same_self A3 n3 c3 L13 A4 n4 c4 _ (by first | exact hownO.rd | exact (hownO.after hbM).rd) (by first | exact hownM.rd | exact (hownM.after hbO).rd) H13.out).mono ?_; rintro e wT ⟨rfl, hbT⟩)
                | (go_at_call 28; refine (same_self A1 n1 c1 L12 A2 n2 c2 _ (by first | exact hownU.rd | exact (hownU.after hbL).rd) (by first | exact hownL.rd | exact (hownL.after hbU).rd) H12.out).mono ?_; rintro e wS ⟨rfl, hbS⟩))
            all_goals
              go_wp2
              go_meet
              exact ⟨rfl, by assumption⟩
          case rest =>
            obtain ⟨rfl, hb⟩ := hcut
            have HB := Lib.hid (bl_tr B4.out hb)
            clear hb
            go_wp2
            go_returns
            exact ⟨rfl, HB.out⟩
end Go.Proofs.Ytbeemkamjachpaa
