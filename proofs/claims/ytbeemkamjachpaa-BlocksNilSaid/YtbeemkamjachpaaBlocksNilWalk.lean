/- The walk of BlocksNil. -/
import Derived.Test.YtbeemkamjachpaaB17
namespace Go.Proofs.Ytbeemkamjachpaa
open Go.RowKit
set_option maxRecDepth 100000
theorem rep_get (n k : Nat) : (List.replicate n (0 : UInt8)).getD k 0 = 0 := by
  rw [List.getD_eq_getElem?_getD, List.getElem?_replicate]
  split <;> rfl
set_option maxHeartbeats 1000000 in
theorem nil_in (x y : Nat) (hx : x < 65536) (hy : y < 256) (k : Nat) (hk0 : k < 1 + y % 40) (W : World) : Calls Try.prog 9 #[.int .u16 (x : Nat), .int .u8 (y : Nat), .int .i64 (((x % 1000 : Nat) : Int) + (k : Nat))] W fun e w' => e = .returned (.bool true) ∧ Below W.heap.size W w' := by
  obtain ⟨f, hf⟩ : ∃ f, f = x % 1000 := ⟨_, rfl⟩
  obtain ⟨n, hn⟩ : ∃ n, n = 1 + y % 40 := ⟨_, rfl⟩
  have hf1 : f < 1000 := by omega
  have hn1 : n ≤ 40 := by omega
  rw [← hf]
  have hk : k < n := by omega
  have e0 : decide ((f : Int) ≤ (f : Int) + (k : Nat)) = true := decide_eq_true (by omega)
  have e1 : decide ((f : Int) + (k : Nat) < (f : Int) + (n : Nat)) = true := decide_eq_true (by omega)
  clear hk0
  have HBeg := Lib.hid (fun W => begin_any x y hx hy W)
  rw [← hf, ← hn] at HBeg
  clear hf hn hx hy
  go_enter Try.func9, Try.ntmps9
  go_wp2_with fail
  refine (known_any W).mono ?_
  rintro e w1 ⟨rfl, hb1⟩
  have B1 := Lib.hid hb1
  clear hb1
  go_wp2_with fail
  refine (HBeg.out w1).mono ?_
  rintro e w2 ⟨b, s, q, rfl, hm, hr, hsq, hs, hb⟩
  have B2 := Lib.hid ((B1.out.trans (hb.mono B1.out.size)).alloc (Nat.le_trans B1.out.size hb.size) (.cells #[.int .i64 (f : Nat), .slice (some ⟨q, 0, none⟩) n n] 28))
  have M2 := Lib.hid (hm.after ((Below.refl _ w2).alloc (Nat.le_refl _) (.cells #[.int .i64 (f : Nat), .slice (some ⟨q, 0, none⟩) n n] 28)))
  have k2 := Blk.new w2 28 #[.int .i64 (f : Nat), .slice (some ⟨q, 0, none⟩) n n]
  have c0 := k2.cell 0; have c1 := k2.cell 1
  simp at c0 c1
  clear hm hr hb k2 B1 hsq hs HBeg
  unfold RM
  go_wp2_with fail
  generalize w2.alloc (.cells #[.int .i64 (f : Nat), .slice (some ⟨q, 0, none⟩) n n] 28) = w3 at B2 M2 ⊢
  refine ((show Calls Try.prog 24 #[.pointer (some ⟨b, 0, none⟩), .int .i64 ((f : Int) + (k : Nat))] w3 fun e w' => e = .returned (.tuple #[.int .i64 0, .int .i64 0]) ∧ Below w3.heap.size w3 w' from by have h := state_in b s f (List.replicate n 0) k w3 M2.out (by rw [List.length_replicate]; exact hk); rw [rep_get] at h; exact h)).mono ?_
  rintro e w4 ⟨rfl, hb⟩
  have B4 := Lib.hid (B2.out.trans (hb.mono B2.out.size)); have M4 := Lib.hid (M2.out.after hb)
  clear hb B2 M2 c0 c1
  go_wp2_with fail
  refine (give_bad b s f (List.replicate n 0) k w4 M4.out (by rw [List.length_replicate]; exact hk) (by rw [rep_get]; decide) (by rw [rep_get]; decide)).mono ?_
  rintro e w5 ⟨rfl, hb⟩
  have B5 := Lib.hid (B4.out.trans (hb.mono B4.out.size))
  clear hb B4 M4
  go_wp2_with fail
  refine (state_nil ((f : Int) + (k : Nat)) w5).mono ?_
  rintro e w' ⟨rfl, rfl⟩
  go_wp2_with fail
  refine (take_nil w5).mono ?_
  rintro e w6 ⟨rfl, hb⟩
  have B6 := Lib.hid (B5.out.trans (hb.mono B5.out.size))
  clear hb B5
  go_wp2_with fail
  refine (give_nil ((f : Int) + (k : Nat)) w6).mono ?_
  rintro e w' ⟨rfl, rfl⟩
  go_wp2_with fail
  refine (commit_nil w6).mono ?_
  rintro e w7 ⟨rfl, hb⟩
  have B7 := Lib.hid (B6.out.trans (hb.mono B6.out.size))
  clear hb B6
  go_wp2_with fail
  refine (abort_nil w7).mono ?_
  rintro e w8 ⟨rfl, hb⟩
  have B8 := Lib.hid (B7.out.trans (hb.mono B7.out.size))
  clear hb B7
  go_wp2_with fail
  refine (first_nil w8).mono ?_
  rintro e w' ⟨rfl, rfl⟩
  go_wp2_with fail
  refine (count_nil w8).mono ?_
  rintro e w' ⟨rfl, rfl⟩
  go_wp2_with fail
  refine (number_nil 0 w8).mono ?_
  rintro e w9 ⟨rfl, hb⟩
  have B9 := Lib.hid (B8.out.trans (hb.mono B8.out.size))
  clear hb B8
  go_wp2_with fail
  refine (used_nil w9).mono ?_
  rintro e w10 ⟨Ax, cx, rfl, hb⟩
  have B10 := Lib.hid (B9.out.trans (hb.mono B9.out.size))
  clear hb B9
  go_wp2_with fail
  refine (old_nil w10).mono ?_
  rintro e w11 ⟨Ax, cx, rfl, hb⟩
  have B11 := Lib.hid (B10.out.trans (hb.mono B10.out.size))
  clear hb B10
  go_wp2_with fail
  refine (encode_nil w11).mono ?_
  rintro e w12 ⟨rfl, hb⟩
  have B12 := Lib.hid (B11.out.trans (hb.mono B11.out.size))
  clear hb B11
  go_wp2_with fail
  refine (clone_nil w12).mono ?_
  rintro e w' ⟨rfl, rfl⟩
  go_wp2_with fail
  refine (equal_nn w12).mono ?_
  rintro e w' ⟨rfl, rfl⟩
  go_wp2_with fail
  refine (equal_nm b w12).mono ?_
  rintro e w' ⟨rfl, rfl⟩
  go_wp2_with fail
  refine (equal_mn b w12).mono ?_
  rintro e w' ⟨rfl, rfl⟩
  go_wp2
  go_returns
  exact ⟨rfl, B12.out⟩
set_option maxHeartbeats 1000000 in
theorem nil_low (x y : Nat) (hx : x < 65536) (hy : y < 256) (z : Int) (hz : -9223372036854775808 ≤ z ∧ z ≤ 9223372036854775807) (hlo : z < ((x % 1000 : Nat) : Int)) (W : World) : Calls Try.prog 9 #[.int .u16 (x : Nat), .int .u8 (y : Nat), .int .i64 z] W fun e w' => e = .returned (.bool true) ∧ Below W.heap.size W w' := by
  obtain ⟨f, hf⟩ : ∃ f, f = x % 1000 := ⟨_, rfl⟩
  obtain ⟨n, hn⟩ : ∃ n, n = 1 + y % 40 := ⟨_, rfl⟩
  have hf1 : f < 1000 := by omega
  have hn1 : n ≤ 40 := by omega
  rw [← hf] at hlo
  have hin : inR f n z = false := decide_eq_false (by omega)
  have e0 : decide ((f : Int) ≤ z) = false := decide_eq_false (by omega)
  have HBeg := Lib.hid (fun W => begin_any x y hx hy W)
  rw [← hf, ← hn] at HBeg
  clear hf hn hx hy
  go_enter Try.func9, Try.ntmps9
  go_wp2_with fail
  refine (known_any W).mono ?_
  rintro e w1 ⟨rfl, hb1⟩
  have B1 := Lib.hid hb1
  clear hb1
  go_wp2_with fail
  refine (HBeg.out w1).mono ?_
  rintro e w2 ⟨b, s, q, rfl, hm, hr, hsq, hs, hb⟩
  have B2 := Lib.hid ((B1.out.trans (hb.mono B1.out.size)).alloc (Nat.le_trans B1.out.size hb.size) (.cells #[.int .i64 (f : Nat), .slice (some ⟨q, 0, none⟩) n n] 28))
  have M2 := Lib.hid (hm.after ((Below.refl _ w2).alloc (Nat.le_refl _) (.cells #[.int .i64 (f : Nat), .slice (some ⟨q, 0, none⟩) n n] 28)))
  have k2 := Blk.new w2 28 #[.int .i64 (f : Nat), .slice (some ⟨q, 0, none⟩) n n]
  have c0 := k2.cell 0; have c1 := k2.cell 1
  simp at c0 c1
  clear hm hr hb k2 B1 hsq hs HBeg
  unfold RM
  go_wp2_with fail
  generalize w2.alloc (.cells #[.int .i64 (f : Nat), .slice (some ⟨q, 0, none⟩) n n] 28) = w3 at B2 M2 ⊢
  refine (state_out b s f (List.replicate n 0) z w3 M2.out hz.2 (by rw [List.length_replicate]; exact hin)).mono ?_
  rintro e w4 ⟨rfl, hb⟩
  have B4 := Lib.hid (B2.out.trans (hb.mono B2.out.size)); have M4 := Lib.hid (M2.out.after hb)
  clear hb B2 M2 c0 c1
  go_wp2_with fail
  refine (give_out b s f (List.replicate n 0) z w4 M4.out hz.2 (by rw [List.length_replicate]; exact hin)).mono ?_
  rintro e w5 ⟨rfl, hb⟩
  have B5 := Lib.hid (B4.out.trans (hb.mono B4.out.size))
  clear hb B4 M4
  go_wp2_with fail
  refine (state_nil z w5).mono ?_
  rintro e w' ⟨rfl, rfl⟩
  go_wp2_with fail
  refine (take_nil w5).mono ?_
  rintro e w6 ⟨rfl, hb⟩
  have B6 := Lib.hid (B5.out.trans (hb.mono B5.out.size))
  clear hb B5
  go_wp2_with fail
  refine (give_nil z w6).mono ?_
  rintro e w' ⟨rfl, rfl⟩
  go_wp2_with fail
  refine (commit_nil w6).mono ?_
  rintro e w7 ⟨rfl, hb⟩
  have B7 := Lib.hid (B6.out.trans (hb.mono B6.out.size))
  clear hb B6
  go_wp2_with fail
  refine (abort_nil w7).mono ?_
  rintro e w8 ⟨rfl, hb⟩
  have B8 := Lib.hid (B7.out.trans (hb.mono B7.out.size))
  clear hb B7
  go_wp2_with fail
  refine (first_nil w8).mono ?_
  rintro e w' ⟨rfl, rfl⟩
  go_wp2_with fail
  refine (count_nil w8).mono ?_
  rintro e w' ⟨rfl, rfl⟩
  go_wp2_with fail
  refine (number_nil 0 w8).mono ?_
  rintro e w9 ⟨rfl, hb⟩
  have B9 := Lib.hid (B8.out.trans (hb.mono B8.out.size))
  clear hb B8
  go_wp2_with fail
  refine (used_nil w9).mono ?_
  rintro e w10 ⟨Ax, cx, rfl, hb⟩
  have B10 := Lib.hid (B9.out.trans (hb.mono B9.out.size))
  clear hb B9
  go_wp2_with fail
  refine (old_nil w10).mono ?_
  rintro e w11 ⟨Ax, cx, rfl, hb⟩
  have B11 := Lib.hid (B10.out.trans (hb.mono B10.out.size))
  clear hb B10
  go_wp2_with fail
  refine (encode_nil w11).mono ?_
  rintro e w12 ⟨rfl, hb⟩
  have B12 := Lib.hid (B11.out.trans (hb.mono B11.out.size))
  clear hb B11
  go_wp2_with fail
  refine (clone_nil w12).mono ?_
  rintro e w' ⟨rfl, rfl⟩
  go_wp2_with fail
  refine (equal_nn w12).mono ?_
  rintro e w' ⟨rfl, rfl⟩
  go_wp2_with fail
  refine (equal_nm b w12).mono ?_
  rintro e w' ⟨rfl, rfl⟩
  go_wp2_with fail
  refine (equal_mn b w12).mono ?_
  rintro e w' ⟨rfl, rfl⟩
  go_wp2
  go_returns
  exact ⟨rfl, B12.out⟩
set_option maxHeartbeats 1000000 in
theorem nil_high (x y : Nat) (hx : x < 65536) (hy : y < 256) (z : Int) (hz : -9223372036854775808 ≤ z ∧ z ≤ 9223372036854775807) (hhi : ((x % 1000 : Nat) : Int) + ((1 + y % 40 : Nat) : Int) ≤ z) (W : World) : Calls Try.prog 9 #[.int .u16 (x : Nat), .int .u8 (y : Nat), .int .i64 z] W fun e w' => e = .returned (.bool true) ∧ Below W.heap.size W w' := by
  obtain ⟨f, hf⟩ : ∃ f, f = x % 1000 := ⟨_, rfl⟩
  obtain ⟨n, hn⟩ : ∃ n, n = 1 + y % 40 := ⟨_, rfl⟩
  have hf1 : f < 1000 := by omega
  have hn1 : n ≤ 40 := by omega
  rw [← hf, ← hn] at hhi
  have hin : inR f n z = false := decide_eq_false (by omega)
  have e0 : decide ((f : Int) ≤ z) = true := decide_eq_true (by omega)
  have e1 : decide (z < (f : Int) + (n : Nat)) = false := decide_eq_false (by omega)
  have HBeg := Lib.hid (fun W => begin_any x y hx hy W)
  rw [← hf, ← hn] at HBeg
  clear hf hn hx hy
  go_enter Try.func9, Try.ntmps9
  go_wp2_with fail
  refine (known_any W).mono ?_
  rintro e w1 ⟨rfl, hb1⟩
  have B1 := Lib.hid hb1
  clear hb1
  go_wp2_with fail
  refine (HBeg.out w1).mono ?_
  rintro e w2 ⟨b, s, q, rfl, hm, hr, hsq, hs, hb⟩
  have B2 := Lib.hid ((B1.out.trans (hb.mono B1.out.size)).alloc (Nat.le_trans B1.out.size hb.size) (.cells #[.int .i64 (f : Nat), .slice (some ⟨q, 0, none⟩) n n] 28))
  have M2 := Lib.hid (hm.after ((Below.refl _ w2).alloc (Nat.le_refl _) (.cells #[.int .i64 (f : Nat), .slice (some ⟨q, 0, none⟩) n n] 28)))
  have k2 := Blk.new w2 28 #[.int .i64 (f : Nat), .slice (some ⟨q, 0, none⟩) n n]
  have c0 := k2.cell 0; have c1 := k2.cell 1
  simp at c0 c1
  clear hm hr hb k2 B1 hsq hs HBeg
  unfold RM
  go_wp2_with fail
  generalize w2.alloc (.cells #[.int .i64 (f : Nat), .slice (some ⟨q, 0, none⟩) n n] 28) = w3 at B2 M2 ⊢
  refine (state_out b s f (List.replicate n 0) z w3 M2.out hz.2 (by rw [List.length_replicate]; exact hin)).mono ?_
  rintro e w4 ⟨rfl, hb⟩
  have B4 := Lib.hid (B2.out.trans (hb.mono B2.out.size)); have M4 := Lib.hid (M2.out.after hb)
  clear hb B2 M2 c0 c1
  go_wp2_with fail
  refine (give_out b s f (List.replicate n 0) z w4 M4.out hz.2 (by rw [List.length_replicate]; exact hin)).mono ?_
  rintro e w5 ⟨rfl, hb⟩
  have B5 := Lib.hid (B4.out.trans (hb.mono B4.out.size))
  clear hb B4 M4
  go_wp2_with fail
  refine (state_nil z w5).mono ?_
  rintro e w' ⟨rfl, rfl⟩
  go_wp2_with fail
  refine (take_nil w5).mono ?_
  rintro e w6 ⟨rfl, hb⟩
  have B6 := Lib.hid (B5.out.trans (hb.mono B5.out.size))
  clear hb B5
  go_wp2_with fail
  refine (give_nil z w6).mono ?_
  rintro e w' ⟨rfl, rfl⟩
  go_wp2_with fail
  refine (commit_nil w6).mono ?_
  rintro e w7 ⟨rfl, hb⟩
  have B7 := Lib.hid (B6.out.trans (hb.mono B6.out.size))
  clear hb B6
  go_wp2_with fail
  refine (abort_nil w7).mono ?_
  rintro e w8 ⟨rfl, hb⟩
  have B8 := Lib.hid (B7.out.trans (hb.mono B7.out.size))
  clear hb B7
  go_wp2_with fail
  refine (first_nil w8).mono ?_
  rintro e w' ⟨rfl, rfl⟩
  go_wp2_with fail
  refine (count_nil w8).mono ?_
  rintro e w' ⟨rfl, rfl⟩
  go_wp2_with fail
  refine (number_nil 0 w8).mono ?_
  rintro e w9 ⟨rfl, hb⟩
  have B9 := Lib.hid (B8.out.trans (hb.mono B8.out.size))
  clear hb B8
  go_wp2_with fail
  refine (used_nil w9).mono ?_
  rintro e w10 ⟨Ax, cx, rfl, hb⟩
  have B10 := Lib.hid (B9.out.trans (hb.mono B9.out.size))
  clear hb B9
  go_wp2_with fail
  refine (old_nil w10).mono ?_
  rintro e w11 ⟨Ax, cx, rfl, hb⟩
  have B11 := Lib.hid (B10.out.trans (hb.mono B10.out.size))
  clear hb B10
  go_wp2_with fail
  refine (encode_nil w11).mono ?_
  rintro e w12 ⟨rfl, hb⟩
  have B12 := Lib.hid (B11.out.trans (hb.mono B11.out.size))
  clear hb B11
  go_wp2_with fail
  refine (clone_nil w12).mono ?_
  rintro e w' ⟨rfl, rfl⟩
  go_wp2_with fail
  refine (equal_nn w12).mono ?_
  rintro e w' ⟨rfl, rfl⟩
  go_wp2_with fail
  refine (equal_nm b w12).mono ?_
  rintro e w' ⟨rfl, rfl⟩
  go_wp2_with fail
  refine (equal_mn b w12).mono ?_
  rintro e w' ⟨rfl, rfl⟩
  go_wp2
  go_returns
  exact ⟨rfl, B12.out⟩
theorem blocksNil_walk (x y : Nat) (z : Int) (hx : x < 65536) (hy : y < 256) (hz : -9223372036854775808 ≤ z ∧ z ≤ 9223372036854775807) (W : World) : Calls Try.prog 9 #[.int .u16 (x : Nat), .int .u8 (y : Nat), .int .i64 z] W fun e w' => e = .returned (.bool true) ∧ Below W.heap.size W w' := by
  by_cases hlo : z < ((x % 1000 : Nat) : Int)
  · exact nil_low x y hx hy z hz hlo W
  · by_cases hhi : ((x % 1000 : Nat) : Int) + ((1 + y % 40 : Nat) : Int) ≤ z
    · exact nil_high x y hx hy z hz hhi W
    · obtain ⟨k, hk⟩ : ∃ k : Nat, z = ((x % 1000 : Nat) : Int) + (k : Nat) := ⟨(z - ((x % 1000 : Nat) : Int)).toNat, by omega⟩
      subst hk
      exact nil_in x y hx hy k (by omega) W
end Go.Proofs.Ytbeemkamjachpaa
