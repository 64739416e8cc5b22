/- The law AccessParts, walked. -/
import Derived.Test.YtgegkjjknlfkpaaDoorRefB
import Derived.Test.YtgegkjjknlfkpaaDoorRun
import Derived.Test.YtgegkjjknlfkpaaDoorKnown
namespace Go.Proofs.YtgegkjjknlfkpaaDoor
open Go.RowKit
set_option maxRecDepth 100000
theorem and_or8 (b x y : Nat) (hb : b < 8) (hx : x < 8) (hy : y < 8) : (b &&& (x ||| y) = x ||| y) ↔ (b &&& x = x) ∧ (b &&& y = y) := by
  have h : ∀ b x y : Fin 8, (b.val &&& (x.val ||| y.val) = x.val ||| y.val) ↔ (b.val &&& x.val = x.val) ∧ (b.val &&& y.val = y.val) := by decide +kernel
  exact h ⟨b, hb⟩ ⟨x, hx⟩ ⟨y, hy⟩
theorem parts_law (u : Int) (l : List Int) (fo fg : Int) (m x y : Nat) (hm : m ≤ 2047) :
    (reqN u l fo fg m (bits .or .i64 ((x : Int) % 8) ((y : Int) % 8)) = 0) ↔ (reqN u l fo fg m ((x : Int) % 8) = 0 ∧ reqN u l fo fg m ((y : Int) % 8) = 0) := by
  have hx : x % 8 < 8 := Nat.mod_lt _ (by decide)
  have hy : y % 8 < 8 := Nat.mod_lt _ (by decide)
  have ho : x % 8 ||| y % 8 < 8 := Nat.or_lt_two_pow (n := 3) hx hy
  have key : ∀ z : Nat, z < 8 → (reqN u l fo fg m (z : Int) = 0 ↔ (u = 0 ∨ bitsN m (classN u l fo fg) &&& z = z)) := fun z hz => by
    unfold reqN
    rw [if_neg (by omega)]
    simp only [Int.toNat_natCast]
    split <;> simp_all
  rw [show bits .or .i64 ((x : Int) % 8) ((y : Int) % 8) = ((x % 8 ||| y % 8 : Nat) : Int) from i64_or_nat (x % 8) (y % 8) (by omega) (by omega)]
  rw [key _ ho, show (x : Int) % 8 = ((x % 8 : Nat) : Int) from rfl, show (y : Int) % 8 = ((y % 8 : Nat) : Int) from rfl, key _ hx, key _ hy, and_or8 _ _ _ (bitsN_lt _ _) hx hy]
  constructor
  · rintro (h | ⟨h1, h2⟩)
    · exact ⟨.inl h, .inl h⟩
    · exact ⟨.inr h1, .inr h2⟩
  · rintro ⟨h1 | h1, h2 | h2⟩ <;> simp_all
theorem reqN_root (l : List Int) (fo fg : Int) (m x : Nat) (hm : m ≤ 2047) : reqN 0 l fo fg m ((x : Int) % 8) = 0 := by
  unfold reqN; rw [if_neg (by omega), if_pos (.inl rfl)]
set_option maxHeartbeats 2000000 in
theorem accessParts_walk (u : Int) (A : Option Addr) (n c : Nat) (l : List Int) (fo fg fm : Int) (x y : Nat) (w : World) (hg : Glob w) (hr : Rd w w.heap.size LI A n l) (hnc : n ≤ c) (hc : c ≤ 9223372036854775807) :
    Calls Tryd.prog 3 #[.agg #[.int .i64 u, .slice A n c], .agg #[.int .i64 fo, .int .i64 fg, .int .i64 fm], .agg #[.int .u8 (x : Nat), .int .u8 (y : Nat)]] w fun e w' => e = .returned (.bool true) ∧ Below w.heap.size w w' := by
  have hb0 : Below w.heap.size w (((w.alloc (.cells #[.int .i64 u, .slice A n c] 24)).alloc (.cells #[.int .i64 fo, .int .i64 fg, .int .i64 fm] 26)).alloc (.cells #[.int .u8 (x : Nat), .int .u8 (y : Nat)] 27)) :=
    (((Below.refl _ _).alloc (Nat.le_refl _) _).alloc (by simp) _).alloc (by simp; omega) _
  have hr3 := hr.after hb0
  have k0 := ((Blk.new w 24 #[.int .i64 u, .slice A n c]).alloc (.cells #[.int .i64 fo, .int .i64 fg, .int .i64 fm] 26)).alloc (.cells #[.int .u8 (x : Nat), .int .u8 (y : Nat)] 27)
  have k1 := (Blk.new (w.alloc (.cells #[.int .i64 u, .slice A n c] 24)) 26 #[.int .i64 fo, .int .i64 fg, .int .i64 fm]).alloc (.cells #[.int .u8 (x : Nat), .int .u8 (y : Nat)] 27)
  have k2 := Blk.new ((w.alloc (.cells #[.int .i64 u, .slice A n c] 24)).alloc (.cells #[.int .i64 fo, .int .i64 fg, .int .i64 fm] 26)) 27 #[.int .u8 (x : Nat), .int .u8 (y : Nat)]
  rw [show (w.alloc (.cells #[.int .i64 u, .slice A n c] 24)).heap.size = w.heap.size + 1 by simp] at k1
  rw [show ((w.alloc (.cells #[.int .i64 u, .slice A n c] 24)).alloc (.cells #[.int .i64 fo, .int .i64 fg, .int .i64 fm] 26)).heap.size = w.heap.size + 2 by simp] at k2
  have HB0 := Lib.hid hb0; have HR3 := Lib.hid hr3; have K0 := Lib.hid k0; have K1 := Lib.hid k1; have K2 := Lib.hid k2; have HG := Lib.hid hg
  clear hb0 hr3 k0 k1 k2 hr hg
  go_enter Tryd.func3, Tryd.ntmps3
  go_wp2_with fail
  have hs3 : (((w.alloc (.cells #[.int .i64 u, .slice A n c] 24)).alloc (.cells #[.int .i64 fo, .int .i64 fg, .int .i64 fm] 26)).alloc (.cells #[.int .u8 (x : Nat), .int .u8 (y : Nat)] 27)).heap.size = w.heap.size + 3 := by simp
  refine (who_any u A n c l _ HR3.out hnc hc).mono ?_
  generalize ((w.alloc (.cells #[.int .i64 u, .slice A n c] 24)).alloc (.cells #[.int .i64 fo, .int .i64 fg, .int .i64 fm] 26)).alloc (.cells #[.int .u8 (x : Nat), .int .u8 (y : Nat)] 27) = w3 at HB0 HR3 K0 K1 K2 hs3 ⊢
  rintro e w4 ⟨A1, c1, A2, c2, rfl, ho1, ho2, hb4⟩
  rw [hs3] at ho1 ho2
  generalize hk : (l.take 8).length = k at ho1 ho2
  have hk8 : k ≤ 8 := by rw [← hk]; simp; omega
  clear hk
  generalize l.take 8 = l2 at ho1 ho2
  have k04 := K0.out.after hb4
  have k14 := K1.out.after hb4
  have k24 := K2.out.after hb4
  have hb04 := HB0.out.trans (hb4.mono HB0.out.size)
  have f0 := k04.frozen 0
  have f1 := k04.frozen 1
  have q0 : w4.cell? ⟨w.heap.size, 0, none⟩ = some (.int .i64 u) := k04.cell 0
  have q1 : w4.cell? ⟨w.heap.size, 1, none⟩ = some (.slice A n c) := k04.cell 1
  have hs4 : w.heap.size + 3 ≤ w4.heap.size := by have := hb4.size; omega
  have hl0 : w.heap.size < w4.heap.size := by omega
  have hl1 : w.heap.size + 1 < w4.heap.size := by omega
  have hl2 : w.heap.size + 2 < w4.heap.size := by omega
  have HO1 := Lib.hid ho1; have HO2 := Lib.hid ho2; have HB4 := Lib.hid hb04; have K04 := Lib.hid k04; have K14 := Lib.hid k14; have K24 := Lib.hid k24
  clear ho1 ho2 hb04 k04 k14 k24 hb4 hs3 HB0 HR3 K0 K1 K2
  go_upto_region 2 with fail
  have hn0 : w.heap.size + 1 ≠ w.heap.size := by omega
  have hn1 : w.heap.size + 2 ≠ w.heap.size := by omega
  have k05 := ((K04.out.set_ 0 (.int .i64 u)).set_ 1 (.slice A2 k c2)).alloc (.cells #[.int .i64 u, .slice A1 k c1] 28)
  have k15 := ((K14.out.far (p := ⟨w.heap.size, 0, none⟩) hn0 (.int .i64 u)).far (p := ⟨w.heap.size, 1, none⟩) hn0 (.slice A2 k c2)).alloc (.cells #[.int .i64 u, .slice A1 k c1] 28)
  have k25 := ((K24.out.far (p := ⟨w.heap.size, 0, none⟩) hn1 (.int .i64 u)).far (p := ⟨w.heap.size, 1, none⟩) hn1 (.slice A2 k c2)).alloc (.cells #[.int .i64 u, .slice A1 k c1] 28)
  have k75 := Blk.new ((w4.setCell ⟨w.heap.size, 0, none⟩ (.int .i64 u)).setCell ⟨w.heap.size, 1, none⟩ (.slice A2 k c2)) 28 #[.int .i64 u, .slice A1 k c1]
  rw [show ((w4.setCell ⟨w.heap.size, 0, none⟩ (.int .i64 u)).setCell ⟨w.heap.size, 1, none⟩ (.slice A2 k c2)).heap.size = w4.heap.size by simp] at k75
  have ho15 := ((HO1.out.setCell (a := ⟨w.heap.size, 0, none⟩) (by show w.heap.size < w.heap.size + 3; omega) (.int .i64 u)).setCell (a := ⟨w.heap.size, 1, none⟩) (by show w.heap.size < w.heap.size + 3; omega) (.slice A2 k c2)).alloc (.cells #[.int .i64 u, .slice A1 k c1] 28)
  have ho25 := ((HO2.out.setCell (a := ⟨w.heap.size, 0, none⟩) (by show w.heap.size < w.heap.size + 3; omega) (.int .i64 u)).setCell (a := ⟨w.heap.size, 1, none⟩) (by show w.heap.size < w.heap.size + 3; omega) (.slice A2 k c2)).alloc (.cells #[.int .i64 u, .slice A1 k c1] 28)
  have hb5' := (HB4.out.setCell (p := ⟨w.heap.size, 0, none⟩) (Nat.le_refl _) (.int .i64 u)).setCell (p := ⟨w.heap.size, 1, none⟩) (Nat.le_refl _) (.slice A2 k c2)
  have hb5 := hb5'.alloc hb5'.size (.cells #[.int .i64 u, .slice A1 k c1] 28)
  clear hb5'
  generalize ((w4.setCell ⟨w.heap.size, 0, none⟩ (.int .i64 u)).setCell ⟨w.heap.size, 1, none⟩ (.slice A2 k c2)).alloc (.cells #[.int .i64 u, .slice A1 k c1] 28) = W5 at k05 k15 k25 k75 ho15 ho25 hb5 ⊢
  generalize w4.heap.size = b7 at hs4 hl0 hl1 hl2 k75 ⊢
  have HW : Hid (∀ W, Below W5.heap.size W5 W → W.cell? ⟨w.heap.size, 0, none⟩ = some (.int .i64 u) ∧ W.cell? ⟨w.heap.size, 1, none⟩ = some (.slice A2 k c2) ∧ W.cell? ⟨w.heap.size + 1, 0, none⟩ = some (.int .i64 fo) ∧ W.cell? ⟨w.heap.size + 1, 1, none⟩ = some (.int .i64 fg) ∧ W.cell? ⟨w.heap.size + 1, 2, none⟩ = some (.int .i64 fm) ∧
      W.cell? ⟨w.heap.size + 2, 0, none⟩ = some (.int .u8 (x : Nat)) ∧ W.cell? ⟨w.heap.size + 2, 1, none⟩ = some (.int .u8 (y : Nat)) ∧ W.cell? ⟨b7, 0, none⟩ = some (.int .i64 u) ∧ W.cell? ⟨b7, 1, none⟩ = some (.slice A1 k c1)) :=
    Lib.hid fun W h => ⟨(k05.after h).cell 0, (k05.after h).cell 1, (k15.after h).cell 0, (k15.after h).cell 1, (k15.after h).cell 2, (k25.after h).cell 0, (k25.after h).cell 1, (k75.after h).cell 0, (k75.after h).cell 1⟩
  have HG5 := Lib.hid (HG.out.after HG.out.lt hb5)
  have HO15 := Lib.hid ho15; have HO25 := Lib.hid ho25; have HB5 := Lib.hid hb5
  clear k05 k15 k25 k75 ho15 ho25 hb5 f0 f1 q0 q1 hs4 hl0 hl1 hl2 hn0 hn1 HO1 HO2 HB4 K04 K14 K24
  obtain ⟨q0, q1, q2, q3, q4, q5, q6, q7, q8⟩ := HW.out W5 (Below.refl _ _)
  by_cases hfm : fm < 0
  · have e0 : decide (fm < 0) = true := by simp [hfm]
    clear hfm
    go_wp2_with fail
    refine (known_any _ HG5.out).mono ?_
    rintro e w6 ⟨rfl, hb6⟩
    have HB6 := Lib.hid (HB5.out.trans (hb6.mono HB5.out.size)); clear hb6
    go_wp2
    go_returns
    exact ⟨rfl, HB6.out⟩
  by_cases hfm2 : 2047 < fm
  · have e0 : decide (fm < 0) = false := by simp; omega
    have e1 : decide (2047 < fm) = true := by simp [hfm2]
    clear hfm hfm2
    go_wp2_with fail
    refine (known_any _ HG5.out).mono ?_
    rintro e w6 ⟨rfl, hb6⟩
    have HB6 := Lib.hid (HB5.out.trans (hb6.mono HB5.out.size)); clear hb6
    go_wp2
    go_returns
    exact ⟨rfl, HB6.out⟩
  have e0 : decide (fm < 0) = false := by simp; omega
  have e1 : decide (2047 < fm) = false := by simp; omega
  obtain ⟨m, rfl⟩ := Int.eq_ofNat_of_zero_le (show 0 ≤ fm by omega)
  have hm : m ≤ 2047 := by omega
  have HP := Lib.hid (parts_law u l2 fo fg m x y hm)
  have HZ := Lib.hid (reqN_root l2 fo fg m x hm)
  clear hfm hfm2 hm
  go_wp2
  go_quiet (fail)
  have hb6 : Below W5.heap.size W5 (W5.drewN nq) := below_drewN (Below.refl _ _) nq
  generalize W5.drewN nq = W6 at hb6 ⊢
  clear q0 q1 q2 q3 q4 q5 q6 q7 q8
  obtain ⟨q0, q1, q2, q3, q4, q5, q6, q7, q8⟩ := HW.out W6 hb6
  have h86 := HO15.out.after hb6
  have hg6 := HG5.out.after HG5.out.lt hb6
  have hk9 : k ≤ 9223372036854775807 := by omega
  have HB6 := Lib.hid hb6; have H86 := Lib.hid h86; have HG6 := Lib.hid hg6
  clear hb6 h86 hg6
  go_wp2_with fail
  refine (require_any u A1 k c1 l2 fo fg m ((x : Int) % 8) W6 HG6.out H86.out.rd hk9).mono ?_
  rintro e W7 ⟨rfl, hb7⟩
  have hb57 := bl_tr HB6.out hb7
  clear q0 q1 q2 q3 q4 q5 q6 q7 q8
  obtain ⟨q0, q1, q2, q3, q4, q5, q6, q7, q8⟩ := HW.out W7 hb57
  have H87 := Lib.hid (H86.out.after hb7); have HG7 := Lib.hid (HG5.out.after HG5.out.lt hb57); have HB7 := Lib.hid hb57
  generalize reqN u l2 fo fg m ((x : Int) % 8) = r1 at HP ⊢
  clear hb7 hb57
  go_wp2_with fail
  refine (require_any u A1 k c1 l2 fo fg m ((y : Int) % 8) W7 HG7.out H87.out.rd hk9).mono ?_
  rintro e W8 ⟨rfl, hb8⟩
  have hb58 := bl_tr HB7.out hb8
  clear q0 q1 q2 q3 q4 q5 q6 q7 q8
  obtain ⟨q0, q1, q2, q3, q4, q5, q6, q7, q8⟩ := HW.out W8 hb58
  have H88 := Lib.hid (H87.out.after hb8); have HG8 := Lib.hid (HG5.out.after HG5.out.lt hb58); have HB8 := Lib.hid hb58
  generalize reqN u l2 fo fg m ((y : Int) % 8) = r2 at HP ⊢
  clear hb8 hb58
  go_wp2_with fail
  refine (require_any u A1 k c1 l2 fo fg m (bits .or .i64 ((x : Int) % 8) ((y : Int) % 8)) W8 HG8.out H88.out.rd hk9).mono ?_
  rintro e W9 ⟨rfl, hb9⟩
  have hb59 := bl_tr HB8.out hb9
  clear q0 q1 q2 q3 q4 q5 q6 q7 q8
  obtain ⟨q0, q1, q2, q3, q4, q5, q6, q7, q8⟩ := HW.out W9 hb59
  have HG9 := Lib.hid (HG5.out.after HG5.out.lt hb59); have HB9 := Lib.hid hb59; have HO9 := Lib.hid (HO25.out.after hb59)
  generalize reqN u l2 fo fg m (bits .or .i64 ((x : Int) % 8) ((y : Int) % 8)) = r3 at HP ⊢
  clear hb9 hb59
  have hbool : (((r3 : Nat) : Int) == 0) = ((((r1 : Nat) : Int) == 0) && (((r2 : Nat) : Int) == 0)) := by
    have := HP.out
    rw [Bool.eq_iff_iff]
    simp only [Bool.and_eq_true, beq_iff_eq]
    omega
  generalize z3 : (((r3 : Nat) : Int) == 0) = b3 at hbool
  generalize z1 : (((r1 : Nat) : Int) == 0) = b1 at hbool
  generalize z2 : (((r2 : Nat) : Int) == 0) = b2 at hbool
  subst hbool
  clear HP
  cases b1 <;> cases b2 <;> simp only [Bool.and_self, Bool.and_true, Bool.and_false] at z3
  all_goals
    go_wp2_with fail
    refine (known_any _ HG9.out).mono ?_
    rintro e W10 ⟨rfl, hb10⟩
    have hb510 := bl_tr HB9.out hb10
    clear q0 q1 q2 q3 q4 q5 q6 q7 q8
    obtain ⟨q0, q1, q2, q3, q4, q5, q6, q7, q8⟩ := HW.out W10 hb510
    have HG10 := Lib.hid (HG5.out.after HG5.out.lt hb510); have HB10 := Lib.hid hb510; have HO10 := Lib.hid (HO9.out.after hb10)
    clear hb10 hb510
    go_wp2_with fail
    refine (require_any 0 A2 k c2 l2 fo fg m ((x : Int) % 8) W10 HG10.out HO10.out.rd hk9).mono ?_
    rintro e W11 ⟨rfl, hb11⟩
    have HB11 := Lib.hid (HB5.out.trans ((bl_tr HB10.out hb11).mono HB5.out.size))
    clear hb11
    rw [HZ.out]
    go_wp2
    go_returns
    exact ⟨rfl, HB11.out⟩
end Go.Proofs.YtgegkjjknlfkpaaDoor
