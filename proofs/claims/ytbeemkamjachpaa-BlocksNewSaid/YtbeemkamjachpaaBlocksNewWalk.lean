/- The walk of BlocksNew. -/
import Derived.Test.YtbeemkamjachpaaB24
import Derived.Test.YtbeemkamjachpaaB27
namespace Go.Proofs.Ytbeemkamjachpaa
open Go.ChangeShapes Go.WideShapes Go.ChangeAt Go.RowKit Go.Deep
set_option maxRecDepth 100000
section
variable {H : Type} {enc : TypeId × Value → H} {w : World} {r : Reach} {b0 : Nat} {v : Value} {d : DataW H} {p : List MemPlace}
theorem open_ints (hv : Value.okWide Try.prog w r b0 26 v) (h : DataW.Trod enc Try.prog w 0 (fun _ => true) true 26 v d p) :
    ∃ A n c l, v = .slice A n c ∧ Rd w w.heap.size LI A n l ∧ (∀ x ∈ l, x ≤ 9223372036854775807) := by
  obtain ⟨A, n, c, rfl⟩ := okWide_slice Try.underlying26 hv
  obtain ⟨l, hr, ho, _, _⟩ := open_lay (L := LI) (Ok := fun x : Int => x ≤ 9223372036854775807) Try.underlying26 (by kernel_rfl) (fun n cs y hy => by
    obtain ⟨k, hk, _, wk⟩ := DataW.trod_int Try.underlying3 hy
    exact ⟨k, hk, (bounds_i64 wk).2⟩) h
  exact ⟨A, n, c, l, rfl, hr, ho⟩
end
theorem new_long (f n : Int) (A : Option Addr) (m c : Nat) (W : World) (h : 50 < m) : Calls Try.prog 7 #[.int .i64 f, .int .i64 n, .slice A m c] W fun e w' => e = .returned (.bool true) ∧ Below W.heap.size W w' := by
  have e0 : decide (50 < ((m : Nat) : Int)) = true := decide_eq_true (by omega)
  clear h
  go_enter Try.func7, Try.ntmps7
  go_wp2_with fail
  refine (known_any W).mono ?_
  rintro e w1 ⟨rfl, hb1⟩
  have B1 := Lib.hid hb1
  clear hb1
  go_wp2_with fail
  refine (known_any w1).mono ?_
  rintro e w2 ⟨rfl, hb2⟩
  have B2 := Lib.hid (B1.out.trans (hb2.mono B1.out.size))
  clear hb2
  go_wp2
  go_returns
  exact ⟨rfl, B2.out⟩
theorem new_mid (f n : Int) (A : Option Addr) (m c : Nat) (W : World) (hm : m ≤ 50) (h : 300 < n ∧ n ≤ 65536) : Calls Try.prog 7 #[.int .i64 f, .int .i64 n, .slice A m c] W fun e w' => e = .returned (.bool true) ∧ Below W.heap.size W w' := by
  have e0 : decide (50 < ((m : Nat) : Int)) = false := decide_eq_false (by omega)
  have e1 : decide (300 < n) = true := decide_eq_true h.1
  have e2 : decide (n ≤ 65536) = true := decide_eq_true h.2
  clear h hm
  go_enter Try.func7, Try.ntmps7
  go_wp2_with fail
  refine (known_any W).mono ?_
  rintro e w1 ⟨rfl, hb1⟩
  have B1 := Lib.hid hb1
  clear hb1
  go_wp2_with fail
  refine (known_any w1).mono ?_
  rintro e w2 ⟨rfl, hb2⟩
  have B2 := Lib.hid (B1.out.trans (hb2.mono B1.out.size))
  clear hb2
  go_wp2
  go_returns
  exact ⟨rfl, B2.out⟩
set_option maxHeartbeats 1000000 in
theorem new_bad1 (f n : Int) (A : Option Addr) (m c : Nat) (W : World) (hm : m ≤ 50) (hbad : f < 0 ∨ 1073741824 < f ∨ n < 1 ∨ 65536 < n) (h : n ≤ 300) : Calls Try.prog 7 #[.int .i64 f, .int .i64 n, .slice A m c] W fun e w' => e = .returned (.bool true) ∧ Below W.heap.size W w' := by
  have e0 : decide (50 < ((m : Nat) : Int)) = false := decide_eq_false (by omega)
  have e1 : decide (300 < n) = false := decide_eq_false (by omega)
  clear h
  have HBad := Lib.hid hbad
  clear hm hbad
  go_enter Try.func7, Try.ntmps7
  go_wp2_with fail
  refine (known_any W).mono ?_
  rintro e w1 ⟨rfl, hb1⟩
  have B1 := Lib.hid hb1
  clear hb1
  go_wp2_with fail
  refine (new_bad f n w1 HBad.out).mono ?_
  rintro e w' ⟨rfl, rfl⟩
  go_wp2_with fail
  refine (rnew_bad f n w1 HBad.out).mono ?_
  rintro e w2 ⟨rfl, hb2⟩
  have B2 := Lib.hid ((B1.out.trans (hb2.mono B1.out.size)).alloc (Nat.le_trans B1.out.size hb2.size) (.cells #[.int .i64 0, .slice none 0 0] 28))
  clear hb2 B1
  go_wp2_with fail
  generalize w2.alloc (.cells #[.int .i64 0, .slice none 0 0] 28) = w3 at B2 ⊢
  refine (load_range f n _ w3 HBad.out).mono ?_
  rintro e w' ⟨rfl, rfl⟩
  go_wp2_with fail
  refine (rload_range f n _ w3 HBad.out).mono ?_
  rintro e w4 ⟨rfl, hb4⟩
  have B4 := Lib.hid ((B2.out.trans (hb4.mono B2.out.size)).alloc (Nat.le_trans B2.out.size hb4.size) (.cells #[.int .i64 0, .slice none 0 0] 28))
  clear hb4 B2
  go_wp2
  go_returns
  exact ⟨rfl, B4.out⟩
set_option maxHeartbeats 1000000 in
theorem new_bad2 (f n : Int) (A : Option Addr) (m c : Nat) (W : World) (hm : m ≤ 50) (hbad : f < 0 ∨ 1073741824 < f ∨ n < 1 ∨ 65536 < n) (h : 65536 < n) : Calls Try.prog 7 #[.int .i64 f, .int .i64 n, .slice A m c] W fun e w' => e = .returned (.bool true) ∧ Below W.heap.size W w' := by
  have e0 : decide (50 < ((m : Nat) : Int)) = false := decide_eq_false (by omega)
  have e1 : decide (300 < n) = true := decide_eq_true (by omega)
  have e2 : decide (n ≤ 65536) = false := decide_eq_false (by omega)
  clear h
  have HBad := Lib.hid hbad
  clear hm hbad
  go_enter Try.func7, Try.ntmps7
  go_wp2_with fail
  refine (known_any W).mono ?_
  rintro e w1 ⟨rfl, hb1⟩
  have B1 := Lib.hid hb1
  clear hb1
  go_wp2_with fail
  refine (new_bad f n w1 HBad.out).mono ?_
  rintro e w' ⟨rfl, rfl⟩
  go_wp2_with fail
  refine (rnew_bad f n w1 HBad.out).mono ?_
  rintro e w2 ⟨rfl, hb2⟩
  have B2 := Lib.hid ((B1.out.trans (hb2.mono B1.out.size)).alloc (Nat.le_trans B1.out.size hb2.size) (.cells #[.int .i64 0, .slice none 0 0] 28))
  clear hb2 B1
  go_wp2_with fail
  generalize w2.alloc (.cells #[.int .i64 0, .slice none 0 0] 28) = w3 at B2 ⊢
  refine (load_range f n _ w3 HBad.out).mono ?_
  rintro e w' ⟨rfl, rfl⟩
  go_wp2_with fail
  refine (rload_range f n _ w3 HBad.out).mono ?_
  rintro e w4 ⟨rfl, hb4⟩
  have B4 := Lib.hid ((B2.out.trans (hb4.mono B2.out.size)).alloc (Nat.le_trans B2.out.size hb4.size) (.cells #[.int .i64 0, .slice none 0 0] 28))
  clear hb4 B2
  go_wp2
  go_returns
  exact ⟨rfl, B4.out⟩
set_option maxHeartbeats 2000000 in
theorem new_good (f n : Nat) (A : Option Addr) (m c : Nat) (used : List Int) (W : World) (hr : Rd W W.heap.size LI A m used) (hu : ∀ x ∈ used, x ≤ 9223372036854775807) (hm : m ≤ 50) (hf : f ≤ 1073741824) (h1 : 1 ≤ n) (hn : n ≤ 300) : Calls Try.prog 7 #[.int .i64 (f : Nat), .int .i64 (n : Nat), .slice A m c] W fun e w' => e = .returned (.bool true) ∧ Below W.heap.size W w' := by
  have e0 : decide (50 < ((m : Nat) : Int)) = false := decide_eq_false (by omega)
  have e1 : decide (300 < ((n : Nat) : Int)) = false := decide_eq_false (by omega)
  have HR := Lib.hid hr; have HU := Lib.hid hu
  have hlr := List.length_replicate (n := n) (a := (0 : UInt8))
  have HLR := Lib.hid hlr
  have hl2 := ldL_len f used (List.replicate n 0)
  rw [hlr] at hl2
  have HL2 := Lib.hid hl2
  clear hr hu hlr hl2
  go_enter Try.func7, Try.ntmps7
  go_wp2_with fail
  refine (known_any W).mono ?_
  rintro e w1 ⟨rfl, hb1⟩
  have B1 := Lib.hid hb1
  clear hb1
  go_wp2_with fail
  refine (new_ok f n w1 hf h1 (by omega)).mono ?_
  rintro e w2 ⟨rfl, hm2, hb2⟩
  have M2 := Lib.hid hm2; have B2 := Lib.hid (B1.out.trans (hb2.mono B1.out.size))
  clear hm2 hb2 B1
  go_wp2_with fail
  refine (rnew_ok f n w2 hf h1 (by omega)).mono ?_
  rintro e w3 ⟨rfl, hr3, hb3⟩
  have hb3' := hb3.alloc hb3.size (.cells #[.int .i64 (f : Nat), .slice (some ⟨w2.heap.size + 1, 0, none⟩) n n] 28)
  have hbl := (Below.refl _ w3).alloc (Nat.le_refl _) (.cells #[.int .i64 (f : Nat), .slice (some ⟨w2.heap.size + 1, 0, none⟩) n n] 28)
  have M3 := Lib.hid (M2.out.after hb3'); have R3 := Lib.hid (hr3.after hbl); have K3 := Lib.hid (Blk.new w3 28 #[.int .i64 (f : Nat), .slice (some ⟨w2.heap.size + 1, 0, none⟩) n n]); have B3 := Lib.hid (B2.out.trans (hb3'.mono B2.out.size))
  clear hr3 hb3 hb3' hbl M2 B2
  unfold RM
  go_wp2_with fail
  generalize w3.alloc (.cells #[.int .i64 (f : Nat), .slice (some ⟨w2.heap.size + 1, 0, none⟩) n n] 28) = wa at M3 R3 K3 B3 ⊢
  have HLo := Lib.hid (load_any f n A m c used wa hf h1 (by omega) (HR.out.after B3.out) (by omega) HU.out)
  have HRl := Lib.hid (fun w4 (h : Below wa.heap.size wa w4) => rload_any f n A m c used w4 hf h1 (by omega) (HR.out.after (B3.out.trans (h.mono B3.out.size))) (by omega) HU.out)
  generalize ldL f (List.replicate n 0) used = res at HLo HRl HL2
  obtain ⟨er, l2⟩ := res
  simp only at HLo HRl HL2
  refine HLo.out.mono ?_
  clear HLo
  rintro e w4 ⟨(⟨her, b4, s4, -, -, -, rfl, hm4⟩ | ⟨her, rfl⟩), hb4⟩
  · subst her
    have M4 := Lib.hid (M3.out.after hb4); have R4 := Lib.hid (R3.out.after hb4); have K4 := Lib.hid (K3.out.after hb4); have B4 := Lib.hid (B3.out.trans (hb4.mono B3.out.size)); have X4 := Lib.hid hm4; have HB4 := Lib.hid hb4
    clear hm4 hb4 M3 R3 K3 B3
    go_wp2_with fail
    refine (HRl.out w4 HB4.out).mono ?_
    clear HRl HB4
    rintro e w5 ⟨(⟨-, A5, c5, rfl, hr5, -⟩ | ⟨her, -⟩), hb5⟩
    · have hb5' := hb5.alloc hb5.size (.cells #[.int .i64 (f : Nat), .slice A5 n c5] 28)
      have hbl := (Below.refl _ w5).alloc (Nat.le_refl _) (.cells #[.int .i64 (f : Nat), .slice A5 n c5] 28)
      have M5 := Lib.hid (M4.out.after hb5'); have R5 := Lib.hid (R4.out.after hb5'); have K5 := Lib.hid (K4.out.after hb5'); have B5 := Lib.hid (B4.out.trans (hb5'.mono B4.out.size)); have X5 := Lib.hid (X4.out.after hb5'); have Y5 := Lib.hid (hr5.after hbl); have P5 := Lib.hid (Blk.new w5 28 #[.int .i64 (f : Nat), .slice A5 n c5])
      have k0 := K5.out.cell 0; have k1 := K5.out.cell 1
      simp at k0 k1
      clear hr5 hb5 hb5' hbl M4 R4 K4 B4 X4
      unfold RM
      go_wp2_with fail
      generalize w5.alloc (.cells #[.int .i64 (f : Nat), .slice A5 n c5] 28) = wb at M5 R5 K5 B5 X5 Y5 P5 ⊢
      clear k0 k1
      have hS1 := Same_any (w1.heap.size + 1) w1.heap.size f n (List.replicate n 0) (some ⟨w2.heap.size + 1, 0, none⟩) wb M5.out (by rw [HLR.out]; exact R5.out)
      rw [HLR.out] at hS1
      unfold RM at hS1
      refine hS1.mono ?_
      clear hS1
      rintro e w6 ⟨rfl, hb6⟩
      have X6 := Lib.hid (X5.out.after hb6); have Y6 := Lib.hid (Y5.out.after hb6); have B6 := Lib.hid (B5.out.trans (hb6.mono B5.out.size))
      have p6 := P5.out.after hb6
      have p0 := p6.cell 0; have p1 := p6.cell 1
      simp at p0 p1
      clear hb6 p6 X5 Y5 B5 P5 M5 R5 K5
      have hS2 := Same_any b4 s4 f c5 l2 A5 w6 X6.out (by rw [HL2.out]; exact Y6.out)
      rw [HL2.out] at hS2
      unfold RM at hS2
      have HS2 := Lib.hid hS2
      clear hS2
      go_wp2_with fail
      refine HS2.out.mono ?_
      rintro e w7 ⟨rfl, hb7⟩
      have B7 := Lib.hid (B6.out.trans (hb7.mono B6.out.size))
      clear hb7
      go_wp2
      go_returns
      exact ⟨rfl, B7.out⟩
    · exact absurd rfl her
  · have M4 := Lib.hid (M3.out.after hb4); have R4 := Lib.hid (R3.out.after hb4); have K4 := Lib.hid (K3.out.after hb4); have B4 := Lib.hid (B3.out.trans (hb4.mono B3.out.size)); have HB4 := Lib.hid hb4
    have q0 : ((er : Int) != 0) = true := by simp only [bne_iff_ne, ne_eq]; omega
    clear hb4 M3 R3 K3 B3
    go_wp2_with fail
    refine (HRl.out w4 HB4.out).mono ?_
    clear HRl HB4
    rintro e w5 ⟨(⟨her2, -⟩ | ⟨-, rfl⟩), hb5⟩
    · exact absurd her2 her
    · have hb5' := hb5.alloc hb5.size (.cells #[.int .i64 0, .slice none 0 0] 28)
      have M5 := Lib.hid (M4.out.after hb5'); have R5 := Lib.hid (R4.out.after hb5'); have K5 := Lib.hid (K4.out.after hb5'); have B5 := Lib.hid (B4.out.trans (hb5'.mono B4.out.size))
      have k0 := K5.out.cell 0; have k1 := K5.out.cell 1
      simp at k0 k1
      clear hb5 hb5' M4 R4 K4 B4 her
      go_wp2_with fail
      generalize w5.alloc (.cells #[.int .i64 0, .slice none 0 0] 28) = wb at M5 R5 K5 B5 ⊢
      clear k0 k1
      have hS1 := Same_any (w1.heap.size + 1) w1.heap.size f n (List.replicate n 0) (some ⟨w2.heap.size + 1, 0, none⟩) wb M5.out (by rw [HLR.out]; exact R5.out)
      rw [HLR.out] at hS1
      unfold RM at hS1
      refine hS1.mono ?_
      clear hS1
      rintro e w6 ⟨rfl, hb6⟩
      have B6 := Lib.hid (B5.out.trans (hb6.mono B5.out.size))
      clear hb6 B5 M5 R5 K5
      go_wp2
      go_returns
      exact ⟨rfl, B6.out⟩
theorem blocksNew_walk (f n : Int) (A : Option Addr) (m c : Nat) (used : List Int) (W : World) (hr : Rd W W.heap.size LI A m used) (hu : ∀ x ∈ used, x ≤ 9223372036854775807) : Calls Try.prog 7 #[.int .i64 f, .int .i64 n, .slice A m c] W fun e w' => e = .returned (.bool true) ∧ Below W.heap.size W w' := by
  by_cases hm : 50 < m
  · exact new_long f n A m c W hm
  · by_cases h1 : 300 < n ∧ n ≤ 65536
    · exact new_mid f n A m c W (by omega) h1
    · by_cases hbad : f < 0 ∨ 1073741824 < f ∨ n < 1 ∨ 65536 < n
      · by_cases h2 : n ≤ 300
        · exact new_bad1 f n A m c W (by omega) hbad h2
        · exact new_bad2 f n A m c W (by omega) hbad (by omega)
      · obtain ⟨f', rfl⟩ := Int.eq_ofNat_of_zero_le (show 0 ≤ f by omega)
        obtain ⟨n', rfl⟩ := Int.eq_ofNat_of_zero_le (show 0 ≤ n by omega)
        exact new_good f' n' A m c used W hr hu (by omega) (by omega) (by omega) (by omega)
end Go.Proofs.Ytbeemkamjachpaa
