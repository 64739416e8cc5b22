/- The examples of the chapter (known), by a contract. -/
import Derived.Test.YtbeemkamjachpaaB12
namespace Go.Proofs.Ytbeemkamjachpaa
open Go.RowKit
set_option maxRecDepth 100000
theorem kU : inL 10 [3, 1, 2] [1, 2] ([3, 1, 2] : List UInt8).length = [11, 12] := by decide +kernel
theorem kO : inL 10 [3, 1, 2] [1, 3] ([3, 1, 2] : List UInt8).length = [10, 11] := by decide +kernel
theorem kE : encB 10 [3, 1, 2] = [10, 3, 1, 6] := by decide +kernel
theorem kNew (W : World) : Calls Try.prog 29 #[.int .i64 10, .int .i64 3] W fun e w' => e = .returned (.tuple #[.pointer (some ⟨W.heap.size + 1, 0, none⟩), .int .i64 0]) ∧ MpAt w' (W.heap.size + 1) W.heap.size 10 [0, 0, 0] ∧ Below W.heap.size W w' :=
  new_ok 10 3 W (by decide) (by decide) (by decide)
theorem kT1 (b s : Nat) (W : World) (h : MpAt W b s 10 [0, 0, 0]) : Calls Try.prog 19 #[.pointer (some ⟨b, 0, none⟩)] W fun e w' => e = .returned (.tuple #[.int .i64 10, .int .i64 0]) ∧ MpAt w' b s 10 [2, 0, 0] ∧ Keep (fun i => i = s) W w' :=
  take_some b s 10 _ 0 W h rfl
theorem kT2 (b s : Nat) (W : World) (h : MpAt W b s 10 [2, 0, 0]) : Calls Try.prog 19 #[.pointer (some ⟨b, 0, none⟩)] W fun e w' => e = .returned (.tuple #[.int .i64 11, .int .i64 0]) ∧ MpAt w' b s 10 [2, 2, 0] ∧ Keep (fun i => i = s) W w' :=
  take_some b s 10 _ 1 W h rfl
theorem kC1 (b s : Nat) (W : World) (h : MpAt W b s 10 [2, 2, 0]) : Calls Try.prog 27 #[.pointer (some ⟨b, 0, none⟩)] W fun e w' => e = .returned (.int .i64 0) ∧ MpAt w' b s 10 [1, 1, 0] ∧ Keep (fun i => i = s) W w' :=
  commit_any b s 10 _ W h (by unfold small; decide)
theorem kG1 (b s : Nat) (W : World) (h : MpAt W b s 10 [1, 1, 0]) : Calls Try.prog 33 #[.pointer (some ⟨b, 0, none⟩), .int .i64 10] W fun e w' => e = .returned (.int .i64 0) ∧ MpAt w' b s 10 [3, 1, 0] ∧ Keep (fun i => i = s) W w' :=
  give_ok b s 10 _ 0 W h (by decide) 1 rfl rfl
theorem kT3 (b s : Nat) (W : World) (h : MpAt W b s 10 [3, 1, 0]) : Calls Try.prog 19 #[.pointer (some ⟨b, 0, none⟩)] W fun e w' => e = .returned (.tuple #[.int .i64 12, .int .i64 0]) ∧ MpAt w' b s 10 [3, 1, 2] ∧ Keep (fun i => i = s) W w' :=
  take_some b s 10 _ 2 W h rfl
theorem kT4 (b s : Nat) (W : World) (h : MpAt W b s 10 [3, 1, 2]) : Calls Try.prog 19 #[.pointer (some ⟨b, 0, none⟩)] W fun e w' => e = .returned (.tuple #[.int .i64 0, .int .i64 26]) ∧ Below W.heap.size W w' :=
  take_none b s 10 _ W h rfl
theorem kC2 (b s : Nat) (W : World) (h : MpAt W b s 10 [3, 1, 2]) : Calls Try.prog 27 #[.pointer (some ⟨b, 0, none⟩)] W fun e w' => e = .returned (.int .i64 0) ∧ MpAt w' b s 10 [0, 1, 1] ∧ Keep (fun i => i = s) W w' :=
  commit_any b s 10 _ W h (by unfold small; decide)
theorem kT5 (b s : Nat) (W : World) (h : MpAt W b s 10 [0, 1, 1]) : Calls Try.prog 19 #[.pointer (some ⟨b, 0, none⟩)] W fun e w' => e = .returned (.tuple #[.int .i64 10, .int .i64 0]) ∧ MpAt w' b s 10 [2, 1, 1] ∧ Keep (fun i => i = s) W w' :=
  take_some b s 10 _ 0 W h rfl
theorem kEn (b s : Nat) (W : World) (h : MpAt W b s 10 [3, 1, 2]) : Calls Try.prog 34 #[.pointer (some ⟨b, 0, none⟩)] W fun e w' => e = .returned (.string ⟨#[10, 3, 1, 6]⟩) ∧ Below W.heap.size W w' := by
  have := encode_any b s 10 _ W h
  rw [kE] at this
  exact this
/-- Two steps, of which the second changes blocks from B on alone. -/
theorem bk {B s : Nat} {a w w' : World} (h : Below B a w) (hk : Keep (fun i => i = s) w w') (hB : B ≤ a.heap.size) (hs : B ≤ s) : Below B a w' := h.trans (hk.below (Nat.le_trans hB h.size) fun i hi e => by omega)
set_option maxHeartbeats 2000000 in
theorem known_any (W : World) : Calls Try.prog 12 #[] W fun e w' => e = .returned (.bool true) ∧ Below W.heap.size W w' := by
  go_enter Try.func12, Try.ntmps12
  go_wp2_with fail
  refine (kNew W).mono ?_
  rintro e w1 ⟨rfl, hm, hb⟩
  have M1 := Lib.hid hm; have B1 := Lib.hid hb
  clear hm hb
  go_wp2_with fail
  refine (kT1 _ _ w1 M1.out).mono ?_
  rintro e w2 ⟨rfl, hm, hk⟩
  have M2 := Lib.hid hm; have B2 := Lib.hid (bk B1.out hk (Nat.le_refl _) (Nat.le_refl _))
  clear hm hk M1 B1
  go_wp2_with fail
  refine (kT2 _ _ w2 M2.out).mono ?_
  rintro e w3 ⟨rfl, hm, hk⟩
  have M3 := Lib.hid hm; have B3 := Lib.hid (bk B2.out hk (Nat.le_refl _) (Nat.le_refl _))
  clear hm hk M2 B2
  go_wp2_with fail
  refine (kC1 _ _ w3 M3.out).mono ?_
  rintro e w4 ⟨rfl, hm, hk⟩
  have M4 := Lib.hid hm; have B4 := Lib.hid (bk B3.out hk (Nat.le_refl _) (Nat.le_refl _))
  clear hm hk M3 B3
  go_wp2_with fail
  refine (kG1 _ _ w4 M4.out).mono ?_
  rintro e w5 ⟨rfl, hm, hk⟩
  have M5 := Lib.hid hm; have B5 := Lib.hid (bk B4.out hk (Nat.le_refl _) (Nat.le_refl _))
  clear hm hk M4 B4
  go_wp2_with fail
  refine (kT3 _ _ w5 M5.out).mono ?_
  rintro e w6 ⟨rfl, hm, hk⟩
  have M6 := Lib.hid hm; have B6 := Lib.hid (bk B5.out hk (Nat.le_refl _) (Nat.le_refl _))
  clear hm hk M5 B5
  go_wp2_with fail
  refine (used_any _ _ _ _ w6 M6.out).mono ?_
  rintro e w7 ⟨A7, n7, c7, rfl, hown, hb⟩
  rw [kU] at hown
  have M7 := Lib.hid (M6.out.after hb); have B7 := Lib.hid (B6.out.trans (hb.mono B6.out.size)); have O7 := Lib.hid hown
  clear hb hown M6 B6
  go_wp2_with fail
  refine (same_any A7 n7 c7 [11, 12] _ 2 2 [11, 12] _ ((O7.out.rd.alloc (Nat.le_refl _) _).more (by simp)) (Rd.ofI (Blk.new w7 3 #[.int .i64 11, .int .i64 12]) (by simp)) (by have := O7.out.cap; simp at this; omega)).mono ?_
  rintro e w8 ⟨rfl, hb⟩
  have hb' := ((Below.refl w7.heap.size w7).alloc (Nat.le_refl _) (.cells #[.int .i64 11, .int .i64 12] 3)).trans (hb.mono (by simp))
  have M8 := Lib.hid (M7.out.after hb'); have B8 := Lib.hid (B7.out.trans (hb'.mono B7.out.size))
  clear hb hb' M7 B7 O7
  go_wp2_with fail
  refine (old_any _ _ _ _ w8 M8.out).mono ?_
  rintro e w9 ⟨A9, n9, c9, rfl, hown, hb⟩
  rw [kO] at hown
  have M9 := Lib.hid (M8.out.after hb); have B9 := Lib.hid (B8.out.trans (hb.mono B8.out.size)); have O9 := Lib.hid hown
  clear hb hown M8 B8
  go_wp2_with fail
  refine (same_any A9 n9 c9 [10, 11] _ 2 2 [10, 11] _ ((O9.out.rd.alloc (Nat.le_refl _) _).more (by simp)) (Rd.ofI (Blk.new w9 3 #[.int .i64 10, .int .i64 11]) (by simp)) (by have := O9.out.cap; simp at this; omega)).mono ?_
  rintro e w10 ⟨rfl, hb⟩
  have hb' := ((Below.refl w9.heap.size w9).alloc (Nat.le_refl _) (.cells #[.int .i64 10, .int .i64 11] 3)).trans (hb.mono (by simp))
  have M10 := Lib.hid (M9.out.after hb'); have B10 := Lib.hid (B9.out.trans (hb'.mono B9.out.size))
  clear hb hb' M9 B9 O9
  go_wp2_with fail
  refine (kEn _ _ w10 M10.out).mono ?_
  rintro e w11 ⟨rfl, hb⟩
  have M11 := Lib.hid (M10.out.after hb); have B11 := Lib.hid (B10.out.trans (hb.mono B10.out.size))
  clear hb M10 B10
  go_wp2_with fail
  refine (kT4 _ _ w11 M11.out).mono ?_
  rintro e w12 ⟨rfl, hb⟩
  have M12 := Lib.hid (M11.out.after hb); have B12 := Lib.hid (B11.out.trans (hb.mono B11.out.size))
  clear hb M11 B11
  go_wp2_with fail
  refine (kC2 _ _ w12 M12.out).mono ?_
  rintro e w13 ⟨rfl, hm, hk⟩
  have M13 := Lib.hid hm; have B13 := Lib.hid (bk B12.out hk (Nat.le_refl _) (Nat.le_refl _))
  clear hm hk M12 B12
  go_wp2_with fail
  refine (kT5 _ _ w13 M13.out).mono ?_
  rintro e w14 ⟨rfl, hm, hk⟩
  have B14 := Lib.hid (bk B13.out hk (Nat.le_refl _) (Nat.le_refl _))
  clear hm hk M13 B13
  go_wp2
  go_returns
  exact ⟨rfl, B14.out⟩
end Go.Proofs.Ytbeemkamjachpaa
