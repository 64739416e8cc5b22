/- The reference's Load, by a contract. -/
import Derived.Test.YtbeemkamjachpaaB25
namespace Go.Proofs.Ytbeemkamjachpaa
open Go.RowKit
set_option maxRecDepth 100000
theorem ldL_len (f : Nat) : ∀ (u : List Int) (l : List UInt8), (ldL f l u).2.length = l.length := by
  intro u
  induction u with
  | nil => intro l; rfl
  | cons x r ih =>
    intro l
    unfold ldL
    split
    · rfl
    · split
      · rfl
      · rw [ih, List.length_set]
theorem ldL_small (f : Nat) : ∀ (u : List Int) (l : List UInt8), small l → small (ldL f l u).2 := by
  intro u
  induction u with
  | nil => intro l h; exact h
  | cons x r ih =>
    intro l h
    unfold ldL
    split
    · exact h
    · split
      · exact h
      · exact ih _ (small_set h _ (by decide))
theorem rload_range (f n : Int) (v : Value) (W : World) (h : f < 0 ∨ 1073741824 < f ∨ n < 1 ∨ 65536 < n) : Calls Try.prog 31 #[.int .i64 f, .int .i64 n, v] W fun e w' =>
    e = .returned (.tuple #[.agg #[.int .i64 0, .slice none 0 0], .int .i64 2]) ∧ Below W.heap.size W w' := by
  have H := Lib.hid (rnew_bad f n (W.alloc (.cells #[.int .i64 0, .slice none 0 0] 28)) h)
  have K0 := Lib.hid (Blk.new W 28 #[.int .i64 0, .slice none 0 0])
  have B0 := Lib.hid ((Below.refl W.heap.size W).alloc (Nat.le_refl _) (.cells #[.int .i64 0, .slice none 0 0] 28))
  clear h
  go_enter Try.func31, Try.ntmps31
  go_wp2_with fail
  refine H.out.mono ?_
  rintro e w1 ⟨rfl, hb⟩
  have hb1 := (B0.out.trans (hb.mono (by simp))).alloc (by have := hb.size; simp at this; omega) (.cells #[.int .i64 0, .slice none 0 0] 28)
  have k1 := (K0.out.after hb).alloc (.cells #[.int .i64 0, .slice none 0 0] 28)
  have e0 : (w1.alloc (.cells #[.int .i64 0, .slice none 0 0] 28)).cell? ⟨W.heap.size, 0, none⟩ = some (.int .i64 0) := k1.cell 0
  have e1 : (w1.alloc (.cells #[.int .i64 0, .slice none 0 0] 28)).cell? ⟨W.heap.size, 1, none⟩ = some (.slice none 0 0) := k1.cell 1
  have y0 := k1.frozen 0; have y1 := k1.frozen 1
  have HB := Lib.hid hb1; have HK := Lib.hid k1
  clear hb hb1 k1 H K0 B0
  go_wp2
  have hB4 := (HB.out.setCell (p := ⟨W.heap.size, 0, none⟩) (Nat.le_refl _) (.int .i64 0)).setCell (p := ⟨W.heap.size, 1, none⟩) (Nat.le_refl _) (.slice none 0 0)
  have hK4 := (HK.out.set_ 0 (.int .i64 0)).set_ 1 (.slice none 0 0)
  clear e0 e1 y0 y1
  generalize ((w1.alloc (.cells #[.int .i64 0, .slice none 0 0] 28)).setCell ⟨W.heap.size, 0, none⟩ (.int .i64 0)).setCell ⟨W.heap.size, 1, none⟩ (.slice none 0 0) = w4 at hB4 hK4 ⊢
  have r0 := hK4.cell 0; have r1 := hK4.cell 1
  simp at r0 r1
  refine bodyPost_ret (v := .tuple #[.agg #[.int .i64 0, .slice none 0 0], .int .i64 2]) (by simp [results, Try.f31, go_sem, r0, r1]) rfl ?_
  exact ⟨rfl, hB4⟩
set_option maxHeartbeats 4000000 in
theorem rload_any (f n : Nat) (A0 : Option Addr) (m c0 : Nat) (used : List Int) (W : World) (hf : f ≤ 1073741824) (h1 : 1 ≤ n) (hn : n ≤ 65536) (hr : Rd W W.heap.size LI A0 m used) (hm : m ≤ 9223372036854775806) (hu : ∀ x ∈ used, x ≤ 9223372036854775807) :
    Calls Try.prog 31 #[.int .i64 (f : Nat), .int .i64 (n : Nat), .slice A0 m c0] W fun e w' =>
    ((ldL f (List.replicate n 0) used).1 = 0 ∧ (∃ A c, e = .returned (.tuple #[RM f A n c, .int .i64 0]) ∧ Rd w' w'.heap.size LI A n (RL (ldL f (List.replicate n 0) used).2) ∧ (∀ ad, A = some ad → W.heap.size < ad.block)) ∨
     (ldL f (List.replicate n 0) used).1 ≠ 0 ∧ e = .returned (.tuple #[.agg #[.int .i64 0, .slice none 0 0], .int .i64 ((ldL f (List.replicate n 0) used).1 : Nat)])) ∧ Below W.heap.size W w' := by
  have HR := Lib.hid hr; have HU := Lib.hid hu
  have HL := Lib.hid hr.len
  have HN := Lib.hid (rnew_ok f n (W.alloc (.cells #[.int .i64 0, .slice none 0 0] 28)) hf h1 hn)
  have hld : ldL f (List.replicate n 0) used = ldL f (List.replicate n 0) (used.drop 0) := by rw [List.drop_zero]
  have K0 := Lib.hid (Blk.new W 28 #[.int .i64 0, .slice none 0 0])
  have B0 := Lib.hid ((Below.refl W.heap.size W).alloc (Nat.le_refl _) (.cells #[.int .i64 0, .slice none 0 0] 28))
  generalize hl0 : List.replicate n (0 : UInt8) = l0 at hld HN
  have HN0 := Lib.hid (show l0.length = n by rw [← hl0, List.length_replicate])
  generalize hres : ldL f l0 used = res at hld
  have HD := Lib.hid hld
  clear hr hu hld hl0 hres
  go_enter Try.func31, Try.ntmps31
  go_wp2_with fail
  refine HN.out.mono ?_
  rintro e w1 ⟨rfl, hr1, hb⟩
  have hs1 := hb.size
  simp only [World.size_alloc] at hs1 hr1 ⊢
  have hT : W.heap.size + 1 ≤ w1.heap.size := hs1
  have hbl := (Below.refl _ w1).alloc (Nat.le_refl _) (.cells #[.int .i64 (f : Nat), .slice (some ⟨W.heap.size + 1 + 1, 0, none⟩) n n] 28)
  have R1 := Lib.hid (hr1.after hbl); have T1 := Lib.hid ((K0.out.after hb).after hbl); have M1 := Lib.hid (Blk.new w1 28 #[.int .i64 (f : Nat), .slice (some ⟨W.heap.size + 1 + 1, 0, none⟩) n n])
  have B1 := Lib.hid ((B0.out.trans (hb.mono (by simp))).alloc (by omega) (.cells #[.int .i64 (f : Nat), .slice (some ⟨W.heap.size + 1 + 1, 0, none⟩) n n] 28))
  have hq : W.heap.size + 1 + 1 < w1.heap.size := hr1.lt (by omega) _ rfl
  clear hr1 hb hbl HN K0 B0
  unfold RM
  go_wp2
  generalize w1.alloc (.cells #[.int .i64 (f : Nat), .slice (some ⟨W.heap.size + 1 + 1, 0, none⟩) n n] 28) = w2 at R1 T1 M1 B1 ⊢
  go_loopw [10] (fun v wr => ∃ (k : Nat) (l : List UInt8) (A : Option Addr) (c : Nat), k ≤ m ∧ v = .int .i64 (k : Nat) ∧ l.length = n ∧ Rd wr wr.heap.size LI A n (RL l) ∧ (∀ ad, A = some ad → W.heap.size < ad.block ∧ ad.block ≠ w1.heap.size) ∧ Blk wr W.heap.size 28 #[.int .i64 0, .slice none 0 0] ∧ Blk wr w1.heap.size 28 #[.int .i64 (f : Nat), .slice A n c] ∧ Below W.heap.size W wr ∧ res = ldL f l (used.drop k)) (fun v _ => m - (intOf v).toNat)
  case atStart => exact ⟨0, l0, _, _, by omega, rfl, HN0.out, R1.out, fun ad had => by cases had; exact ⟨by show W.heap.size < W.heap.size + 1 + 1; omega, by show W.heap.size + 1 + 1 ≠ w1.heap.size; omega⟩, T1.out, M1.out, B1.out, HD.out⟩
  case round =>
    obtain ⟨k, l, A, c, hk, rfl, hln, hrd, hA, hT0, hM, hb, hd⟩ := hrel
    clear R1 T1 M1 B1 HD
    have hwm : w1.heap.size < wr.heap.size := hM.lt
    have HLn := Lib.hid hln; have HRd := Lib.hid hrd; have HA := Lib.hid hA; have HT := Lib.hid hT0; have HM := Lib.hid hM; have HB := Lib.hid hb
    by_cases hlt : k < m
    · have k1 : k < used.length := by have := HL.out; omega
      obtain ⟨b1, o1, x, rfl, hb1, hx, hc1⟩ := HR.out.nth hlt
      have hx' : used[k] = x := by rw [List.getElem?_eq_getElem k1] at hx; injection hx
      have hxm : x ≤ 9223372036854775807 := HU.out x (by rw [← hx']; exact List.getElem_mem _)
      have hcx0 : W.cell? ⟨b1, o1 + k, none⟩ = some (.int .i64 x) := by
        have := hc1 0 _ rfl
        simpa [LI] using this
      have hcx : ∀ W', Below W.heap.size W W' → W'.cell? ⟨b1, o1 + k, none⟩ = some (.int .i64 x) := fun W' h => (h.cell (p := ⟨b1, o1 + k, none⟩) hb1).trans hcx0
      have HX := Lib.hid hcx
      rw [List.drop_eq_getElem_cons k1, hx'] at hd
      unfold ldL at hd
      rw [hln] at hd
      have hh := regrow_call (P := Try.prog) (f := 49) (args := #[.agg #[.int .i64 (f : Nat), .slice A n c], .int .i64 x]) (w := wr) (v := .bool (inR f n x)) (fun W' hW' => rhas_any f n c A x W' hxm hf hn)
      have g0 : ∀ d os, (Go.Sort.grow (redrawn wr d) os).cell? ⟨w1.heap.size, 0, none⟩ = some (.int .i64 (f : Nat)) := regrow (p := fun W' => W'.cell? ⟨w1.heap.size, 0, none⟩ = some (.int .i64 (f : Nat))) fun W' hW' => (HM.out.after hW').cell 0
      have g1 : ∀ d os, (Go.Sort.grow (redrawn wr d) os).cell? ⟨w1.heap.size, 1, none⟩ = some (.slice A n c) := regrow (p := fun W' => W'.cell? ⟨w1.heap.size, 1, none⟩ = some (.slice A n c)) fun W' hW' => (HM.out.after hW').cell 1
      have gx : ∀ d os, (Go.Sort.grow (redrawn wr d) os).cell? ⟨b1, o1 + k, none⟩ = some (.int .i64 x) := regrow (p := fun W' => W'.cell? ⟨b1, o1 + k, none⟩ = some (.int .i64 x)) fun W' hW' => HX.out W' (HB.out.trans (hW'.mono HB.out.size))
      clear hx hc1 hx' hb1 k1 hcx hcx0 hln hrd hA hT0 hM hb
      by_cases hin : inR f n x = true
      · rw [if_neg (by rw [hin]; decide)] at hd
        rw [hin] at hh
        obtain ⟨j, hj, rfl⟩ := inR_true hin
        have ej : (f : Int) + (j : Nat) - (f : Nat) = (j : Nat) := by omega
        rw [ej, Int.toNat_natCast] at hd
        have H1 := Lib.hid hh
        have HD := Lib.hid hd
        clear hh hin hd
        go_wp2
        refine wp_region_quiet_below (by kernel_rfl) (by kernel_rfl) ?_
        repeat (go_big_quiet_step (exact H1.out _ _))
        refine wpQuiet_nil ?_
        rintro _ ⟨⟨dq, osq⟩, rfl⟩
        have hb2 := below_regrown wr dq osq
        have HB2 := Lib.hid hb2
        clear hb2 g0 g1 gx
        generalize Go.Sort.grow (redrawn wr dq) osq = w3 at HB2 ⊢
        have m3 := HM.out.after HB2.out
        have b3 := HB.out.trans (HB2.out.mono HB.out.size)
        obtain ⟨ba, o, y, rfl, -, hy, hc⟩ := (HRd.out.after HB2.out).nth hj
        have hyq := RL_get l j y (by have := HLn.out; omega) hy
        have d0 : w3.cell? ⟨ba, o + j, none⟩ = some (.int .i64 y) := by
          have := hc 0 _ rfl
          simpa [LI] using this
        have t0 : w3.cell? ⟨w1.heap.size, 0, none⟩ = some (.int .i64 (f : Nat)) := m3.cell 0
        have t1 : w3.cell? ⟨w1.heap.size, 1, none⟩ = some (.slice (some ⟨ba, o, none⟩) n c) := m3.cell 1
        have dx := HX.out w3 b3
        have hwj : IntKind.i64.wrap ((j : Nat) : Int) = (j : Nat) := by rw [IntKind.wrap_i64]; omega
        have HM3 := Lib.hid m3; have HB3 := Lib.hid b3; have HR3 := Lib.hid (HRd.out.after HB2.out); have HT3 := Lib.hid (HT.out.after HB2.out)
        clear hy hc m3 b3
        by_cases hz : l.getD j 0 = 0
        · have hy0 : y = 0 := by rw [hyq, hz]; rfl
          have hd2 := HD.out
          rw [if_neg (by rw [hz]; decide)] at hd2
          have HD2 := Lib.hid hd2
          subst hy0
          clear hyq hz hd2 HD
          go_wp2
          go_quiet (fail)
          have hbq := below_drewN (Below.refl w3.heap.size w3) nq
          have HM4 := Lib.hid (HM3.out.after hbq); have HB4 := Lib.hid (HB3.out.trans (hbq.mono HB3.out.size)); have HR4 := Lib.hid (HR3.out.after hbq); have HT4 := Lib.hid (HT3.out.after hbq)
          clear hbq d0 t0 t1 dx HM3 HB3 HR3 HT3
          generalize w3.drewN nq = w4 at HM4 HB4 HR4 HT4 ⊢
          have hwith := with_any f c l (some ⟨ba, o, none⟩) j 1 w4.drew (by rw [HLn.out]; exact HR4.out) hf (by rw [HLn.out]; exact hn) (by rw [HLn.out]; exact hj)
          rw [HLn.out] at hwith
          unfold RM at hwith
          have HW := Lib.hid hwith
          clear hwith
          have dx := HX.out w4 HB4.out
          have t0 : w4.cell? ⟨w1.heap.size, 0, none⟩ = some (.int .i64 (f : Nat)) := HM4.out.cell 0
          have t1 : w4.cell? ⟨w1.heap.size, 1, none⟩ = some (.slice (some ⟨ba, o, none⟩) n c) := HM4.out.cell 1
          go_wp2
          go_region_with (go_at_call 50; refine (HW.out).mono ?_; rintro e w5 ⟨A2, c2, rfl, hown, hb5⟩; have p0 : w5.cell? ⟨w1.heap.size, 0, none⟩ = some (.int .i64 (f : Nat)) := (HM4.out.drew.after hb5).cell 0; have p1 : w5.cell? ⟨w1.heap.size, 1, none⟩ = some (.slice (some ⟨ba, o, none⟩) n c) := (HM4.out.drew.after hb5).cell 1; have z0 := (HM4.out.drew.after hb5).frozen 0; have z1 := (HM4.out.drew.after hb5).frozen 1; have X1 := Lib.hid hown; have X2 := Lib.hid hb5; clear hown hb5)
          all_goals
            have hkT : Keep (fun i => i = w1.heap.size) w5 ((w5.setCell ⟨w1.heap.size, 0, none⟩ (.int .i64 (f : Nat))).setCell ⟨w1.heap.size, 1, none⟩ (.slice A2 n c2)) := ((Keep.refl (fun i => i = w1.heap.size) w5).setCell (p := ⟨w1.heap.size, 0, none⟩) (fun _ => rfl) _).setCell (p := ⟨w1.heap.size, 1, none⟩) (fun _ => rfl) _
            have h4lt : w1.heap.size < w4.heap.size := HM4.out.lt
            have hA2 : ∀ ad, A2 = some ad → w4.heap.size ≤ ad.block := fun ad had => X1.out.from_ ad.block (by rw [had]; rfl)
            have F1 := Lib.hid (show Rd ((w5.setCell ⟨w1.heap.size, 0, none⟩ (.int .i64 (f : Nat))).setCell ⟨w1.heap.size, 1, none⟩ (.slice A2 n c2)) ((w5.setCell ⟨w1.heap.size, 0, none⟩ (.int .i64 (f : Nat))).setCell ⟨w1.heap.size, 1, none⟩ (.slice A2 n c2)).heap.size LI A2 n (RL (l.set j 1)) from (by rw [RL_set]; exact (X1.out.rd.kept hkT (Nat.le_refl _) (fun _ ad had hs => by have := hA2 ad had; omega)).more hkT.size))
            have F2 := Lib.hid (show ∀ ad, A2 = some ad → W.heap.size < ad.block ∧ ad.block ≠ w1.heap.size from fun ad had => by have := hA2 ad had; omega)
            have F3 := Lib.hid ((HT4.out.drew.after X2.out).kept hkT (by show ¬ (_ = _); omega))
            have F4 := Lib.hid (show Blk ((w5.setCell ⟨w1.heap.size, 0, none⟩ (.int .i64 (f : Nat))).setCell ⟨w1.heap.size, 1, none⟩ (.slice A2 n c2)) w1.heap.size 28 #[.int .i64 (f : Nat), .slice A2 n c2] from ((HM4.out.drew.after X2.out).set_ 0 (.int .i64 (f : Nat))).set_ 1 (.slice A2 n c2))
            have hb45 : Below W.heap.size W w5 := HB4.out.drew.trans (X2.out.mono (by show W.heap.size ≤ w4.heap.size; omega))
            have F5 := Lib.hid (hb45.trans (hkT.below hb45.size fun i hi e => by omega))
            have F6 := Lib.hid (show (l.set j 1).length = n by rw [List.length_set]; exact HLn.out)
            clear hkT h4lt hA2 hb45 p0 p1 z0 z1 t0 t1 dx X1 X2 HW HM4 HB4 HR4 HT4
            go_wp2
            go_roundw
            case rel => exact ⟨k + 1, l.set j 1, A2, c2, by omega, by go_num, F6.out, F1.out, F2.out, F3.out, F4.out, F5.out, HD2.out⟩
            case measure => simp [intOf]; omega
        · have hz' : (l.getD j 0).toNat ≠ 0 := fun h => hz (UInt8.toNat_inj.1 (by simpa using h))
          have e0 : (y != 0) = true := by rw [hyq]; simp only [bne_iff_ne, ne_eq]; omega
          have hd2 := HD.out
          rw [if_pos hz] at hd2
          clear HD
          have HD := Lib.hid hd2
          clear hyq hz hz' hd2
          go_wp2
          go_quiet (fail)
          have hbq := below_drewN (Below.refl w3.heap.size w3) nq
          have HBe := Lib.hid (HB3.out.trans (hbq.mono HB3.out.size)); have HTe := Lib.hid (HT3.out.after hbq)
          clear hbq d0 t0 t1 dx HM3 HB3 HR3 HT3
          generalize w3.drewN nq = we at HBe HTe ⊢
          have y0 := HTe.out.frozen 0; have y1 := HTe.out.frozen 1
          have t0e : we.cell? ⟨W.heap.size, 0, none⟩ = some (.int .i64 0) := HTe.out.cell 0
          have t1e : we.cell? ⟨W.heap.size, 1, none⟩ = some (.slice none 0 0) := HTe.out.cell 1
          go_wp2
          have hB4 := (HBe.out.setCell (p := ⟨W.heap.size, 0, none⟩) (Nat.le_refl _) (.int .i64 0)).setCell (p := ⟨W.heap.size, 1, none⟩) (Nat.le_refl _) (.slice none 0 0)
          have hK4 := (HTe.out.set_ 0 (.int .i64 0)).set_ 1 (.slice none 0 0)
          clear t0e t1e y0 y1
          generalize (we.setCell ⟨W.heap.size, 0, none⟩ (.int .i64 0)).setCell ⟨W.heap.size, 1, none⟩ (.slice none 0 0) = w4 at hB4 hK4 ⊢
          have r0 := hK4.cell 0; have r1 := hK4.cell 1
          simp at r0 r1
          refine bodyPost_ret (v := .tuple #[.agg #[.int .i64 0, .slice none 0 0], .int .i64 7]) (by simp [results, Try.f31, go_sem, r0, r1]) rfl ?_
          rw [HD.out]
          exact ⟨.inr ⟨by simp, rfl⟩, hB4⟩
      · have hin' : inR f n x = false := by simpa using hin
        rw [if_pos hin'] at hd
        rw [hin'] at hh
        have H1 := Lib.hid hh
        have HD := Lib.hid hd
        clear hh hin hin' hd
        go_wp2
        refine wp_region_quiet_below (by kernel_rfl) (by kernel_rfl) ?_
        repeat (go_big_quiet_step (exact H1.out _ _))
        refine wpQuiet_nil ?_
        rintro _ ⟨⟨dq, osq⟩, rfl⟩
        have hb2 := below_regrown wr dq osq
        have HBe := Lib.hid (HB.out.trans (hb2.mono HB.out.size)); have HTe := Lib.hid (HT.out.after hb2)
        clear hb2 g0 g1 gx
        generalize Go.Sort.grow (redrawn wr dq) osq = we at HBe HTe ⊢
        have y0 := HTe.out.frozen 0; have y1 := HTe.out.frozen 1
        have t0e : we.cell? ⟨W.heap.size, 0, none⟩ = some (.int .i64 0) := HTe.out.cell 0
        have t1e : we.cell? ⟨W.heap.size, 1, none⟩ = some (.slice none 0 0) := HTe.out.cell 1
        go_wp2
        have hB4 := (HBe.out.setCell (p := ⟨W.heap.size, 0, none⟩) (Nat.le_refl _) (.int .i64 0)).setCell (p := ⟨W.heap.size, 1, none⟩) (Nat.le_refl _) (.slice none 0 0)
        have hK4 := (HTe.out.set_ 0 (.int .i64 0)).set_ 1 (.slice none 0 0)
        clear t0e t1e y0 y1
        generalize (we.setCell ⟨W.heap.size, 0, none⟩ (.int .i64 0)).setCell ⟨W.heap.size, 1, none⟩ (.slice none 0 0) = w4 at hB4 hK4 ⊢
        have r0 := hK4.cell 0; have r1 := hK4.cell 1
        simp at r0 r1
        refine bodyPost_ret (v := .tuple #[.agg #[.int .i64 0, .slice none 0 0], .int .i64 2]) (by simp [results, Try.f31, go_sem, r0, r1]) rfl ?_
        rw [HD.out]
        exact ⟨.inr ⟨by simp, rfl⟩, hB4⟩
    · obtain rfl : k = m := by omega
      rw [List.drop_of_length_le (by rw [HL.out]; exact Nat.le_refl _)] at hd
      have HD := Lib.hid hd
      have t0 : wr.cell? ⟨w1.heap.size, 0, none⟩ = some (.int .i64 (f : Nat)) := hM.cell 0
      have t1 : wr.cell? ⟨w1.heap.size, 1, none⟩ = some (.slice A n c) := hM.cell 1
      have t0e : wr.cell? ⟨W.heap.size, 0, none⟩ = some (.int .i64 0) := hT0.cell 0
      have t1e : wr.cell? ⟨W.heap.size, 1, none⟩ = some (.slice none 0 0) := hT0.cell 1
      have y0 := hT0.frozen 0; have y1 := hT0.frozen 1
      obtain ⟨wx, rfl⟩ : ∃ wx : World, wx = wr := ⟨_, rfl⟩
      clear hln hrd hA hT0 hM hb hd
      go_wp2
      have hk4 : Keep (fun i => i = W.heap.size) wx ((wx.setCell ⟨W.heap.size, 0, none⟩ (.int .i64 (f : Nat))).setCell ⟨W.heap.size, 1, none⟩ (.slice A n c)) := ((Keep.refl (fun i => i = W.heap.size) wx).setCell (p := ⟨W.heap.size, 0, none⟩) (fun _ => rfl) _).setCell (p := ⟨W.heap.size, 1, none⟩) (fun _ => rfl) _
      have hK4 := (HT.out.set_ 0 (.int .i64 (f : Nat))).set_ 1 (.slice A n c)
      clear t0 t1 t0e t1e y0 y1
      generalize (wx.setCell ⟨W.heap.size, 0, none⟩ (.int .i64 (f : Nat))).setCell ⟨W.heap.size, 1, none⟩ (.slice A n c) = w4 at hk4 hK4 ⊢
      have r0 := hK4.cell 0; have r1 := hK4.cell 1
      simp at r0 r1
      refine bodyPost_ret (v := .tuple #[.agg #[.int .i64 (f : Nat), .slice A n c], .int .i64 0]) (by simp [results, Try.f31, go_sem, r0, r1]) rfl ?_
      rw [HD.out]
      exact ⟨.inl ⟨rfl, A, c, rfl, (HRd.out.kept hk4 (Nat.le_refl _) (fun _ ad had hs => by have := (HA.out ad had).1; omega)).more hk4.size, fun ad had => (HA.out ad had).1⟩, HB.out.trans (hk4.below HB.out.size fun i hi e => by omega)⟩
end Go.Proofs.Ytbeemkamjachpaa
