/- The law AccessRuns, walked. -/
import Derived.Test.YtgegkjjknlfkpaaDoorRun
import Derived.Test.YtgegkjjknlfkpaaDoorKnown
namespace Go.Proofs.YtgegkjjknlfkpaaDoor
open Go.RowKit
set_option maxRecDepth 100000
/-- The state behind Run: the identity's box, what Run returned. -/
structure RunsAt (u z : Int) (k c2 c3 b0 b8 : Nat) (A2 A3 : Option Addr) (l2 : List Int) (W : World) : Prop where
  c00 : W.cell? ⟨b0, 0, none⟩ = some (.int .i64 u)
  c01 : W.cell? ⟨b0, 1, none⟩ = some (.slice A2 k c2)
  c80 : W.cell? ⟨b8, 0, none⟩ = some (.int .i64 z)
  c81 : W.cell? ⟨b8, 1, none⟩ = some (.slice A3 k c3)
  r2 : Rd W W.heap.size LI A2 k l2
  r3 : Rd W W.heap.size LI A3 k l2
  l0 : b0 < W.heap.size
  l8 : b8 < W.heap.size
theorem RunsAt.after {u z : Int} {k c2 c3 b0 b8 : Nat} {A2 A3 : Option Addr} {l2 : List Int} {W W' : World} (h : RunsAt u z k c2 c3 b0 b8 A2 A3 l2 W) (hb : Below W.heap.size W W') : RunsAt u z k c2 c3 b0 b8 A2 A3 l2 W' :=
  ⟨(hb.cell (p := ⟨b0, 0, none⟩) h.l0).trans h.c00, (hb.cell (p := ⟨b0, 1, none⟩) h.l0).trans h.c01, (hb.cell (p := ⟨b8, 0, none⟩) h.l8).trans h.c80, (hb.cell (p := ⟨b8, 1, none⟩) h.l8).trans h.c81, h.r2.after hb, h.r3.after hb, Nat.lt_of_lt_of_le h.l0 hb.size, Nat.lt_of_lt_of_le h.l8 hb.size⟩
set_option maxHeartbeats 2000000 in
theorem accessRuns_walk (u : Int) (A : Option Addr) (n c : Nat) (l : List Int) (owner mode : Int) (w : World) (hg : Glob w) (hr : Rd w w.heap.size LI A n l) (hnc : n ≤ c) (hc : c ≤ 9223372036854775807) :
    Calls Tryd.prog 7 #[.agg #[.int .i64 u, .slice A n c], .int .i64 owner, .int .i64 mode] w fun e w' => e = .returned (.bool true) ∧ Below w.heap.size w w' := by
  have hb0 : Below w.heap.size w (w.alloc (.cells #[.int .i64 u, .slice A n c] 24)) := (Below.refl _ _).alloc (Nat.le_refl _) _
  have hr3 := hr.after hb0
  have k0 := Blk.new w 24 #[.int .i64 u, .slice A n c]
  have HB0 := Lib.hid hb0; have HR3 := Lib.hid hr3; have K0 := Lib.hid k0; have HG := Lib.hid hg
  clear hb0 hr3 k0 hr hg
  go_enter Tryd.func7, Tryd.ntmps7
  go_wp2_with fail
  have hs3 : (w.alloc (.cells #[.int .i64 u, .slice A n c] 24)).heap.size = w.heap.size + 1 := by simp
  refine (who_any u A n c l _ HR3.out hnc hc).mono ?_
  generalize w.alloc (.cells #[.int .i64 u, .slice A n c] 24) = w3 at HB0 HR3 K0 hs3 ⊢
  rintro e w4 ⟨A1, c1, A2, c2, rfl, ho1, ho2, hb4⟩
  rw [hs3] at ho1 ho2
  generalize hk : (l.take 8).length = k at ho1 ho2
  have hk8 : k ≤ 8 := by rw [← hk]; simp; omega
  clear hk
  generalize l.take 8 = l2 at ho1 ho2
  have k04 := K0.out.after hb4
  have hb04 := HB0.out.trans (hb4.mono HB0.out.size)
  have f0 := k04.frozen 0
  have f1 := k04.frozen 1
  have q0 : w4.cell? ⟨w.heap.size, 0, none⟩ = some (.int .i64 u) := k04.cell 0
  have q1 : w4.cell? ⟨w.heap.size, 1, none⟩ = some (.slice A n c) := k04.cell 1
  have hs4 : w.heap.size + 1 ≤ w4.heap.size := by have := hb4.size; omega
  have hl0 : w.heap.size < w4.heap.size := by omega
  have HO1 := Lib.hid ho1; have HO2 := Lib.hid ho2; have HB4 := Lib.hid hb04; have K04 := Lib.hid k04
  clear ho1 ho2 hb04 k04 hb4 hs3 HB0 HR3 K0
  go_upto_region 2 with fail
  have k05 := ((K04.out.set_ 0 (.int .i64 u)).set_ 1 (.slice A2 k c2)).alloc (.cells #[.int .i64 u, .slice A1 k c1] 28)
  have k75 := Blk.new ((w4.setCell ⟨w.heap.size, 0, none⟩ (.int .i64 u)).setCell ⟨w.heap.size, 1, none⟩ (.slice A2 k c2)) 28 #[.int .i64 u, .slice A1 k c1]
  rw [show ((w4.setCell ⟨w.heap.size, 0, none⟩ (.int .i64 u)).setCell ⟨w.heap.size, 1, none⟩ (.slice A2 k c2)).heap.size = w4.heap.size by simp] at k75
  have ho15 := ((HO1.out.setCell (a := ⟨w.heap.size, 0, none⟩) (by show w.heap.size < w.heap.size + 1; omega) (.int .i64 u)).setCell (a := ⟨w.heap.size, 1, none⟩) (by show w.heap.size < w.heap.size + 1; omega) (.slice A2 k c2)).alloc (.cells #[.int .i64 u, .slice A1 k c1] 28)
  have ho25 := ((HO2.out.setCell (a := ⟨w.heap.size, 0, none⟩) (by show w.heap.size < w.heap.size + 1; omega) (.int .i64 u)).setCell (a := ⟨w.heap.size, 1, none⟩) (by show w.heap.size < w.heap.size + 1; omega) (.slice A2 k c2)).alloc (.cells #[.int .i64 u, .slice A1 k c1] 28)
  have hb5' := (HB4.out.setCell (p := ⟨w.heap.size, 0, none⟩) (Nat.le_refl _) (.int .i64 u)).setCell (p := ⟨w.heap.size, 1, none⟩) (Nat.le_refl _) (.slice A2 k c2)
  have hb5 := hb5'.alloc hb5'.size (.cells #[.int .i64 u, .slice A1 k c1] 28)
  clear hb5'
  generalize ((w4.setCell ⟨w.heap.size, 0, none⟩ (.int .i64 u)).setCell ⟨w.heap.size, 1, none⟩ (.slice A2 k c2)).alloc (.cells #[.int .i64 u, .slice A1 k c1] 28) = W5 at k05 k75 ho15 ho25 hb5 ⊢
  generalize w4.heap.size = b7 at hs4 hl0 k75 ⊢
  have q2 : W5.cell? ⟨b7, 0, none⟩ = some (.int .i64 u) := k75.cell 0
  have q3 : W5.cell? ⟨b7, 1, none⟩ = some (.slice A1 k c1) := k75.cell 1
  have HG5 := Lib.hid (HG.out.after HG.out.lt hb5)
  have HO15 := Lib.hid ho15; have HO25 := Lib.hid ho25; have HB5 := Lib.hid hb5; have K05 := Lib.hid k05
  clear k05 k75 ho15 ho25 hb5 f0 f1 q0 q1 hs4 hl0 HO1 HO2 HB4 K04
  go_wp2_with fail
  generalize hz : (if 0 ≤ mode ∧ mode ≤ 2047 ∧ mode.toNat / 512 % 2 = 1 then owner else u) = z
  have hrun := run_any u owner mode A1 k c1 l2 W5 HO15.out.rd (by omega)
  rw [hz] at hrun
  have HZ := Lib.hid hz; clear hz
  refine hrun.mono ?_
  rintro e W6 ⟨A3, c3, rfl, hr6, hb6⟩
  have h6 : RunsAt u z k c2 c3 w.heap.size W6.heap.size A2 A3 l2 (W6.alloc (.cells #[.int .i64 z, .slice A3 k c3] 28)) := by
    have ka := (K05.out.after hb6).alloc (.cells #[.int .i64 z, .slice A3 k c3] 28)
    have kb := Blk.new W6 28 #[.int .i64 z, .slice A3 k c3]
    have bb : Below W6.heap.size W6 (W6.alloc (.cells #[.int .i64 z, .slice A3 k c3] 28)) := (Below.refl _ _).alloc (Nat.le_refl _) _
    exact ⟨ka.cell 0, ka.cell 1, kb.cell 0, kb.cell 1, ((HO25.out.after hb6).after bb).rd, hr6.after bb, ka.lt, kb.lt⟩
  have hg6 : Glob (W6.alloc (.cells #[.int .i64 z, .slice A3 k c3] 28)) := (HG5.out.after HG5.out.lt hb6).after (HG5.out.after HG5.out.lt hb6).lt ((Below.refl _ _).alloc (Nat.le_refl _) _)
  have hw6 : Below w.heap.size w (W6.alloc (.cells #[.int .i64 z, .slice A3 k c3] 28)) := HB5.out.trans ((bl_al hb6 _).mono HB5.out.size)
  have H6 := Lib.hid h6; have HG6 := Lib.hid hg6; have HW6 := Lib.hid hw6
  clear h6 hg6 hw6 hb6 hr6 hrun q2 q3
  go_upto_region 3 with fail
  generalize W6.alloc (.cells #[.int .i64 z, .slice A3 k c3] 28) = W7 at H6 HG6 HW6 ⊢
  generalize W6.heap.size = b8 at H6 ⊢
  obtain ⟨q0, q1, q2, q3, -, -, -, -⟩ := H6.out
  have hk9 : (k : Int) ≤ 8 := by omega
  have cases4 : (mode < 0 ∧ u = z) ∨ (0 ≤ mode ∧ 2047 < mode ∧ u = z) ∨ (∃ m : Nat, mode = m ∧ m ≤ 2047 ∧ ¬ m / 512 % 2 = 1 ∧ u = z) ∨ (∃ m : Nat, mode = m ∧ m ≤ 2047 ∧ m / 512 % 2 = 1 ∧ owner = z) := by
    by_cases h0 : mode < 0
    · exact .inl ⟨h0, by rw [← HZ.out, if_neg (by omega)]⟩
    by_cases h1 : 2047 < mode
    · exact .inr (.inl ⟨by omega, h1, by rw [← HZ.out, if_neg (by omega)]⟩)
    · obtain ⟨m, rfl⟩ := Int.eq_ofNat_of_zero_le (show 0 ≤ mode by omega)
      by_cases h2 : m / 512 % 2 = 1
      · exact .inr (.inr (.inr ⟨m, rfl, by omega, h2, by rw [← HZ.out, if_pos ⟨by omega, by omega, h2⟩]⟩))
      · exact .inr (.inr (.inl ⟨m, rfl, by omega, h2, by rw [← HZ.out, if_neg (fun h => h2 h.2.2)]⟩))
  clear HZ
  rcases cases4 with ⟨h0, rfl⟩ | ⟨h0, h1, rfl⟩ | ⟨m, rfl, h1, h2, rfl⟩ | ⟨m, rfl, h1, h2, rfl⟩
  · have e0 : decide (0 ≤ mode) = false := by simp; omega
    clear h0
    go_wp2_with fail
    refine (known_any W7 HG6.out).mono ?_
    rintro e W8 ⟨rfl, hb8⟩
    have H8 := Lib.hid (H6.out.after hb8)
    have HW8 := Lib.hid (HW6.out.trans (hb8.mono HW6.out.size))
    clear hb8 q0 q1 q2 q3
    obtain ⟨q0, q1, q2, q3, -, -, -, -⟩ := H8.out
    go_wp2
    go_loopw [10] (fun v wr => ∃ i : Nat, i ≤ k ∧ v = .int .i64 (i : Nat) ∧ Below W8.heap.size W8 wr) (fun v _ => k - (intOf v).toNat)
    case atStart => exact ⟨0, by omega, rfl, Below.refl _ _⟩
    case round =>
      obtain ⟨i, hi, rfl, hbw⟩ := hrel
      have H9 := Lib.hid (H8.out.after hbw)
      have HB9 := Lib.hid hbw
      clear q0 q1 q2 q3 hbw
      obtain ⟨q0, q1, q2, q3, -, -, -, -⟩ := H9.out
      by_cases hlt : i < k
      · obtain ⟨g2, o2, x2, rfl, -, hx2, hc2⟩ := H9.out.r2.int hlt
        obtain ⟨g3, o3, x3, rfl, -, hx3, hc3⟩ := H9.out.r3.int hlt
        obtain rfl : x2 = x3 := by rw [hx2] at hx3; exact Option.some.inj hx3
        clear hx2 hx3
        go_wp2
        go_quiet (fail)
        go_wp2
        go_roundw
        case rel => exact ⟨i + 1, by omega, by go_num, below_drewN HB9.out _⟩
        case measure => simp [intOf]; omega
      · obtain rfl : i = k := by omega
        go_wp2
        go_returns
        exact ⟨rfl, HW8.out.trans (HB9.out.mono HW8.out.size)⟩
  · have e0 : decide (0 ≤ mode) = true := by simp; omega
    have e1 : decide (mode ≤ 2047) = false := by simp; omega
    clear h0 h1
    go_wp2_with fail
    refine (known_any W7 HG6.out).mono ?_
    rintro e W8 ⟨rfl, hb8⟩
    have H8 := Lib.hid (H6.out.after hb8)
    have HW8 := Lib.hid (HW6.out.trans (hb8.mono HW6.out.size))
    clear hb8 q0 q1 q2 q3
    obtain ⟨q0, q1, q2, q3, -, -, -, -⟩ := H8.out
    go_wp2
    go_loopw [10] (fun v wr => ∃ i : Nat, i ≤ k ∧ v = .int .i64 (i : Nat) ∧ Below W8.heap.size W8 wr) (fun v _ => k - (intOf v).toNat)
    case atStart => exact ⟨0, by omega, rfl, Below.refl _ _⟩
    case round =>
      obtain ⟨i, hi, rfl, hbw⟩ := hrel
      have H9 := Lib.hid (H8.out.after hbw)
      have HB9 := Lib.hid hbw
      clear q0 q1 q2 q3 hbw
      obtain ⟨q0, q1, q2, q3, -, -, -, -⟩ := H9.out
      by_cases hlt : i < k
      · obtain ⟨g2, o2, x2, rfl, -, hx2, hc2⟩ := H9.out.r2.int hlt
        obtain ⟨g3, o3, x3, rfl, -, hx3, hc3⟩ := H9.out.r3.int hlt
        obtain rfl : x2 = x3 := by rw [hx2] at hx3; exact Option.some.inj hx3
        clear hx2 hx3
        go_wp2
        go_quiet (fail)
        go_wp2
        go_roundw
        case rel => exact ⟨i + 1, by omega, by go_num, below_drewN HB9.out _⟩
        case measure => simp [intOf]; omega
      · obtain rfl : i = k := by omega
        go_wp2
        go_returns
        exact ⟨rfl, HW8.out.trans (HB9.out.mono HW8.out.size)⟩
  · have e0 : decide (0 ≤ (m : Int)) = true := by simp
    have e1 : decide ((m : Int) ≤ 2047) = true := by simp; omega
    have e2 : ((m : Int) / 512 % 2 == 1) = false := by simp; omega
    clear h2
    go_wp2_with fail
    refine (known_any W7 HG6.out).mono ?_
    rintro e W8 ⟨rfl, hb8⟩
    have H8 := Lib.hid (H6.out.after hb8)
    have HW8 := Lib.hid (HW6.out.trans (hb8.mono HW6.out.size))
    clear hb8 q0 q1 q2 q3
    obtain ⟨q0, q1, q2, q3, -, -, -, -⟩ := H8.out
    go_wp2
    go_loopw [10] (fun v wr => ∃ i : Nat, i ≤ k ∧ v = .int .i64 (i : Nat) ∧ Below W8.heap.size W8 wr) (fun v _ => k - (intOf v).toNat)
    case atStart => exact ⟨0, by omega, rfl, Below.refl _ _⟩
    case round =>
      obtain ⟨i, hi, rfl, hbw⟩ := hrel
      have H9 := Lib.hid (H8.out.after hbw)
      have HB9 := Lib.hid hbw
      clear q0 q1 q2 q3 hbw
      obtain ⟨q0, q1, q2, q3, -, -, -, -⟩ := H9.out
      by_cases hlt : i < k
      · obtain ⟨g2, o2, x2, rfl, -, hx2, hc2⟩ := H9.out.r2.int hlt
        obtain ⟨g3, o3, x3, rfl, -, hx3, hc3⟩ := H9.out.r3.int hlt
        obtain rfl : x2 = x3 := by rw [hx2] at hx3; exact Option.some.inj hx3
        clear hx2 hx3
        go_wp2
        go_quiet (fail)
        go_wp2
        go_roundw
        case rel => exact ⟨i + 1, by omega, by go_num, below_drewN HB9.out _⟩
        case measure => simp [intOf]; omega
      · obtain rfl : i = k := by omega
        go_wp2
        go_returns
        exact ⟨rfl, HW8.out.trans (HB9.out.mono HW8.out.size)⟩
  · have e0 : decide (0 ≤ (m : Int)) = true := by simp
    have e1 : decide ((m : Int) ≤ 2047) = true := by simp; omega
    have e2 : ((m : Int) / 512 % 2 == 1) = true := by simp; omega
    clear h2
    go_wp2_with fail
    refine (known_any W7 HG6.out).mono ?_
    rintro e W8 ⟨rfl, hb8⟩
    have H8 := Lib.hid (H6.out.after hb8)
    have HW8 := Lib.hid (HW6.out.trans (hb8.mono HW6.out.size))
    clear hb8 q0 q1 q2 q3
    obtain ⟨q0, q1, q2, q3, -, -, -, -⟩ := H8.out
    go_wp2
    go_loopw [10] (fun v wr => ∃ i : Nat, i ≤ k ∧ v = .int .i64 (i : Nat) ∧ Below W8.heap.size W8 wr) (fun v _ => k - (intOf v).toNat)
    case atStart => exact ⟨0, by omega, rfl, Below.refl _ _⟩
    case round =>
      obtain ⟨i, hi, rfl, hbw⟩ := hrel
      have H9 := Lib.hid (H8.out.after hbw)
      have HB9 := Lib.hid hbw
      clear q0 q1 q2 q3 hbw
      obtain ⟨q0, q1, q2, q3, -, -, -, -⟩ := H9.out
      by_cases hlt : i < k
      · obtain ⟨g2, o2, x2, rfl, -, hx2, hc2⟩ := H9.out.r2.int hlt
        obtain ⟨g3, o3, x3, rfl, -, hx3, hc3⟩ := H9.out.r3.int hlt
        obtain rfl : x2 = x3 := by rw [hx2] at hx3; exact Option.some.inj hx3
        clear hx2 hx3
        go_wp2
        go_quiet (fail)
        go_wp2
        go_roundw
        case rel => exact ⟨i + 1, by omega, by go_num, below_drewN HB9.out _⟩
        case measure => simp [intOf]; omega
      · obtain rfl : i = k := by omega
        go_wp2
        go_returns
        exact ⟨rfl, HW8.out.trans (HB9.out.mono HW8.out.size)⟩
end Go.Proofs.YtgegkjjknlfkpaaDoor
