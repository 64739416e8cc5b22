/- The law's own first check: the examples of the chapter. It answers true in every world, and leaves all old memory as it was. -/
import Derived.Test.YtogagcdlkhinjaaText
namespace Go.Proofs.Ytogagcdlkhinjaa
open Go.RowKit
set_option maxRecDepth 100000
theorem WPost.belowB {B base g : Nat} {v : Value} {w0 w w' : World} {out out' : List UInt8} {f f' : Nat} {e : Ending} (hb : Below B w0 w) (hw : Wr w base g v out f) (h : WPost base g v w out' f' e w') (hB : B ≤ base) : Below B w0 w' := by
  obtain ⟨_, v', _, hk, _⟩ := h
  refine hb.trans (hk.below (by have := hw.from_; have := hw.blk.lt; omega) fun i hi hx => ?_)
  rcases hx with rfl | hx
  · have := hw.from_; omega
  · have := (hw.own.lt _ hx).1; omega
theorem nat300 : nat 300 = [172, 2] := by decide +kernel
theorem nat1 : nat (2 * 0 + 1) = [1] := by decide +kernel
theorem nat2 : nat 2 = [2] := by decide +kernel
theorem grpA : grp [128, 0] 9 = (0, 0, 3) := by decide +kernel
theorem grpB : grp [128] 9 = (0, 0, 28) := by decide +kernel
set_option maxHeartbeats 1000000 in
theorem known_any (w : World) : Calls Try.prog 12 #[] w fun e w' => e = .returned (.bool true) ∧ Below w.heap.size w w' := by
  go_enter Try.func12, Try.ntmps12
  go_wp2_with fail
  refine (new_any w).mono ?_
  rintro e w1 ⟨rfl, hw1, hb1⟩
  go_wp2_with fail
  refine (number_any _ _ _ _ _ 300 w1 hw1 (by decide) (by decide)).mono ?_
  rintro e w2 h2
  have hb2 := WPost.belowB hb1 hw1 h2 (Nat.le_refl _)
  obtain ⟨rfl, v2, hw2, _, _⟩ := h2
  rw [nat300] at hw2
  clear hb1 hw1
  go_wp2_with fail
  refine (signed_neg _ _ _ _ _ 0 w2 hw2 (by decide) (by decide)).mono ?_
  rintro e w3 h3
  have hb3 := WPost.belowB hb2 hw2 h3 (Nat.le_refl _)
  obtain ⟨rfl, v3, hw3, _, _⟩ := h3
  rw [nat1] at hw3
  clear hb2 hw2
  go_wp2_with fail
  refine (text_any _ _ _ _ [97, 98] _ w3 hw3 (by decide) (by decide)).mono ?_
  rintro e w4 h4
  have hb4 := WPost.belowB hb3 hw3 h4 (Nat.le_refl _)
  obtain ⟨rfl, v4, hw4, _, _⟩ := h4
  have e4 : put (put (put [] 0 [172, 2]) 0 [1]) 0 (nat ([97, 98] : List UInt8).length ++ [97, 98]) = [172, 2, 1, 2, 97, 98] := by decide +kernel
  rw [e4] at hw4
  clear hb3 hw3 e4
  go_wp2_with fail
  refine (bytes_any _ _ _ _ _ w4 hw4 (by decide)).mono ?_
  rintro e w5 ⟨A, m, c, rfl, hown, hb5⟩
  have hb5' := hb4.trans (hb5.mono hb4.size)
  rw [show gives [172, 2, 1, 2, 97, 98] 0 = [172, 2, 1, 2, 97, 98] from rfl] at hown
  clear hb4 hb5 hw4
  have HO := Lib.hid hown; clear hown
  have p1 : Rd (w5.alloc (.cells #[.int .u8 128, .int .u8 0] 5)) (w5.alloc (.cells #[.int .u8 128, .int .u8 0] 5)).heap.size L8 (some ⟨w5.heap.size, 0, none⟩) 2 [128, 0] :=
    (new_own (e := 5) (base := w5.heap.size) (l := [(128 : UInt8), 0]) (L := L8) (Nat.le_refl _) (by simp [maxLen]) rfl).rd
  have p2 : Rd ((w5.alloc (.cells #[.int .u8 128, .int .u8 0] 5)).alloc (.cells #[.int .u8 128] 5)) ((w5.alloc (.cells #[.int .u8 128, .int .u8 0] 5)).alloc (.cells #[.int .u8 128] 5)).heap.size L8 (some ⟨w5.heap.size + 1, 0, none⟩) 1 [128] := by
    have := (new_own (w := w5.alloc (.cells #[.int .u8 128, .int .u8 0] 5)) (e := 5) (base := w5.heap.size) (l := [(128 : UInt8)]) (L := L8) (cs := #[.int .u8 128]) (by simp) (by simp [maxLen]) rfl).rd
    simpa using this
  have hcv : (convert 22 9 (.slice A m c)).run Try.prog ((w5.alloc (.cells #[.int .u8 128, .int .u8 0] 5)).alloc (.cells #[.int .u8 128] 5)) = .ok (.string (str [172, 2, 1, 2, 97, 98])) ((w5.alloc (.cells #[.int .u8 128, .int .u8 0] 5)).alloc (.cells #[.int .u8 128] 5)) :=
    run_conv8 Try.underlying22 Try.underlying5 Try.underlying9 ((HO.out.rd.alloc (Nat.le_refl _) _).alloc (by simp) _)
  have P1 := Lib.hid p1; have P2 := Lib.hid p2
  clear p1 p2
  go_wp2_with fail
  refine (parse_any _ 2 _ [128, 0] _ P1.out (by decide)).mono ?_
  rintro e w6 ⟨rfl, rfl⟩
  rw [grpA]
  go_wp2_with fail
  refine (parse_any _ 1 _ [128] _ P2.out (by decide)).mono ?_
  rintro e w7 ⟨rfl, rfl⟩
  rw [grpB]
  have hst : (str [172, 2, 1, 2, 97, 98]).toList = [172, 2, 1, 2, 97, 98] := str_toList _
  go_wp2
  go_returns
  exact ⟨rfl, (hb5'.alloc hb5'.size _).alloc (by have := hb5'.size; simp; omega) _⟩
end Go.Proofs.Ytogagcdlkhinjaa
