/- The walk of BlocksGreat. -/
import Derived.Test.YtbeemkamjachpaaB14
namespace Go.Proofs.Ytbeemkamjachpaa
open Go.RowKit
set_option maxRecDepth 100000
/-- The greatest range with its last block in use, and behind a Take. -/
def gr : List UInt8 := (List.replicate 65536 0).set 65535 1
def gr2 : List UInt8 := gr.set 0 2
theorem gr_len : gr.length = 65536 := by rw [gr, List.length_set, List.length_replicate]
theorem gr2_len : gr2.length = 65536 := by rw [gr2, List.length_set, gr_len]
theorem gr_get (k : Nat) (hk : k < 65535) : gr.getD k 0 = 0 := by
  rw [gr, List.getD_eq_getElem?_getD, List.getElem?_set_ne (by omega), List.getElem?_replicate, if_pos (by omega)]; rfl
theorem gr2_get (k : Nat) (h0 : 0 < k) (hk : k < 65535) : gr2.getD k 0 = 0 := by
  have := gr_get k hk
  rw [gr2, List.getD_eq_getElem?_getD, List.getElem?_set_ne (by omega), ← List.getD_eq_getElem?_getD, this]
theorem gr2_zero : gr2.getD 0 0 = 2 := by
  rw [gr2, List.getD_eq_getElem?_getD, List.getElem?_set_self (by rw [gr_len]; decide)]; rfl
theorem gr2_last : gr2.getD 65535 0 = 1 := by
  rw [gr2, List.getD_eq_getElem?_getD, List.getElem?_set_ne (by decide), gr, List.getElem?_set_self (by rw [List.length_replicate]; decide)]; rfl
theorem gr_ld (f : Nat) : ldL f (List.replicate 65536 0) [(f : Int) + 65535] = (0, gr) := by
  have e : ((f : Int) + 65535 - (f : Int)).toNat = 65535 := by omega
  unfold ldL
  rw [List.length_replicate, if_neg (by rw [show inR f 65536 ((f : Int) + 65535) = true from inR_in (f := f) (n := 65536) (k := 65535) (by decide)]; decide), e, if_neg (by rw [List.getD_eq_getElem?_getD, List.getElem?_replicate, if_pos (by decide)]; decide)]
  rfl
theorem gr_free : ffree gr 0 = some 0 := by
  have := ffree_some gr 0 0 (by rw [gr_len]; decide) (gr_get 0 (by decide)) (fun j hj => by omega)
  simpa using this
theorem gr_num (f : Nat) : ∀ j, j ≤ 65534 → (inL f gr2 [0] (j + 1)).length = j := by
  intro j
  induction j with
  | zero => intro _; rw [inL_succ, gr2_zero]; rfl
  | succ j ih =>
    intro hj
    rw [inL_succ, List.length_append, ih (by omega), gr2_get (j + 1) (by omega) (by omega)]
    rfl
theorem gr_all (f : Nat) : (inL f gr2 [0] gr2.length).length = 65534 := by
  rw [gr2_len, show (65536 : Nat) = 65535 + 1 from rfl, inL_succ, List.length_append, show (65535 : Nat) = 65534 + 1 from rfl, gr_num f 65534 (by decide), show (65534 + 1 : Nat) = 65535 from rfl, gr2_last]
  rfl
set_option maxHeartbeats 1000000 in
theorem blocksGreat_walk (f : Nat) (hf : f < 65536) (W : World) : Calls Try.prog 5 #[.int .u16 (f : Nat)] W fun e w' => e = .returned (.bool true) ∧ Below W.heap.size W w' := by
  have ew : (f : Int) + 65536 - 1 = (f : Int) + 65535 := by omega
  go_enter Try.func5, Try.ntmps5
  go_wp2_with fail
  refine (known_any W).mono ?_
  rintro e w1 ⟨rfl, hb1⟩
  have B1 := Lib.hid hb1
  clear hb1
  have HL := Lib.hid (load_any f 65536 (some ⟨w1.heap.size, 0, none⟩) 1 1 [(f : Int) + 65535] (w1.alloc (.cells #[.int .i64 ((f : Int) + 65535)] 3)) (by omega) (by decide) (by decide) (Rd.ofI (Blk.new w1 3 #[.int .i64 ((f : Int) + 65535)]) (by simp)) (by decide) (by intro x hx; simp at hx; omega))
  rw [gr_ld] at HL
  go_wp2_with fail
  refine HL.out.mono ?_
  rintro e w2 ⟨(⟨-, b, s, hb, hs, hbb, rfl, hm⟩ | ⟨h, -⟩), hb2⟩
  · have hb2' := ((Below.refl w1.heap.size w1).alloc (Nat.le_refl _) (.cells #[.int .i64 ((f : Int) + 65535)] 3)).trans (hb2.mono (by simp))
    have B2 := Lib.hid (B1.out.trans (hb2'.mono B1.out.size))
    have hsW : W.heap.size ≤ s := Nat.le_trans B1.out.size (by simp at hs; omega)
    have M2 := Lib.hid hm
    have HS := Lib.hid hsW
    clear hb2 hb2' hm HL hsW hs hb hbb B1
    go_wp2_with fail
    refine (take_some b s f gr 0 w2 M2.out gr_free).mono ?_
    rintro e w3 ⟨rfl, hm, hk⟩
    have M3 : Hid (MpAt w3 b s f gr2) := Lib.hid hm
    have B3 := Lib.hid (bk B2.out hk (Nat.le_refl _) HS.out)
    clear hm hk M2 B2
    have H4 := Lib.hid (state_in b s f gr2 65535 w3 M3.out (by rw [gr2_len]; decide))
    rw [gr2_last] at H4
    go_wp2_with fail
    refine H4.out.mono ?_
    rintro e w4 ⟨rfl, hb⟩
    have M4 := Lib.hid (M3.out.after hb); have B4 := Lib.hid (B3.out.trans (hb.mono B3.out.size))
    clear hb M3 B3 H4
    have H5 := Lib.hid (state_out b s f gr2 ((f : Int) + 65536) w4 M4.out (by omega) (by rw [gr2_len]; exact decide_eq_false (by omega)))
    go_wp2_with fail
    refine H5.out.mono ?_
    rintro e w5 ⟨rfl, hb⟩
    have M5 := Lib.hid (M4.out.after hb); have B5 := Lib.hid (B4.out.trans (hb.mono B4.out.size))
    clear hb M4 B4 H5
    have H6 := Lib.hid (number_any b s f gr2 0 w5 M5.out)
    rw [gr_all] at H6
    go_wp2_with fail
    refine H6.out.mono ?_
    rintro e w6 ⟨rfl, hb⟩
    have B6 := Lib.hid (B5.out.trans (hb.mono B5.out.size))
    clear hb M5 B5 H6
    go_wp2
    go_returns
    exact ⟨rfl, B6.out⟩
  · exact absurd rfl h
end Go.Proofs.Ytbeemkamjachpaa
