/- The walk of BlocksEncodes. -/
import Derived.Test.YtbeemkamjachpaaB32
import Derived.Test.YtbeemkamjachpaaB26
namespace Go.Proofs.Ytbeemkamjachpaa
open Go.RowKit
set_option maxRecDepth 100000
def gK := nx [0, 1, 1, 0]
theorem fourE {x : UInt8} (h : x.toNat < 4) : x = 0 ∨ x = 1 ∨ x = 2 ∨ x = 3 := by
  rcases (show x.toNat = 0 ∨ x.toNat = 1 ∨ x.toNat = 2 ∨ x.toNat = 3 by omega) with h | h | h | h
  · exact .inl (UInt8.toNat_inj.1 h)
  · exact .inr (.inl (UInt8.toNat_inj.1 h))
  · exact .inr (.inr (.inl (UInt8.toNat_inj.1 h)))
  · exact .inr (.inr (.inr (UInt8.toNat_inj.1 h)))
theorem map_kept (l : List UInt8) (h : small l) : (l.map fun x => if (x.toNat : Int) ∈ [(1 : Int), 2] then (1 : UInt8) else 0) = l.map gK := by
  apply List.map_congr_left
  intro x hx
  rcases fourE (h x hx) with rfl | rfl | rfl | rfl <;> decide
theorem enc_kept (f : Nat) (l : List UInt8) (h : small l) : encB f (l.map gK) = encB f l := by
  have e : inL f (l.map gK) [1, 2] l.length = inL f l [1, 2] l.length := by
    unfold inL
    congr 1
    apply List.filter_congr
    intro j hj
    have hj' : j < l.length := List.mem_range.1 hj
    have hm : l.getD j 0 ∈ l := by rw [List.getD_eq_getElem?_getD, List.getElem?_eq_getElem hj']; exact List.getElem_mem _
    have e : (l.map gK).getD j 0 = gK (l.getD j 0) := by
      rw [List.getD_eq_getElem?_getD, List.getElem?_map, List.getD_eq_getElem?_getD, List.getElem?_eq_getElem hj']; rfl
    rw [e]
    rcases fourE (h _ hm) with h | h | h | h <;> rw [h] <;> decide
  unfold encB
  rw [List.length_map, e]
theorem bl_tr2E {N : Nat} {a w w' : World} (h : Below N a w) (k : Below w.heap.size w w') (hN : N ≤ w.heap.size) : Below N a w' := h.trans (k.mono hN)
theorem encB_len (f : Nat) (l : List UInt8) (h : l.length ≤ 65536) : (encB f l).length ≤ 10000 := by
  unfold encB
  have h1 := (nat_len f).2; have h2 := (nat_len l.length).2; have h3 := (nat_len ((l.length + 7) / 8)).2
  have h4 := bitsL_len f l.length (inL f l [1, 2] l.length)
  simp only [List.length_append]
  omega
set_option maxHeartbeats 4000000 in
theorem blocksEncodes_walk (x y : Nat) (hx : x < 65536) (hy : y < 256) (B : Option Addr) (m cB : Nat) (ops : List OV) (W : World) (hr : Rd W W.heap.size LO B m ops) (ho : ∀ z ∈ ops, -9223372036854775808 ≤ z.block ∧ z.block ≤ 9223372036854775807) (hm : m ≤ 9223372036854775807) :
    Calls Try.prog 11 #[.int .u16 (x : Nat), .int .u8 (y : Nat), .slice B m cB] W fun e w' => e = .returned (.bool true) ∧ Below W.heap.size W w' := by
  obtain ⟨f, hf⟩ : ∃ f, f = x % 1000 := ⟨_, rfl⟩
  obtain ⟨n, hn⟩ : ∃ n, n = 1 + y % 40 := ⟨_, rfl⟩
  have hn1 : 1 ≤ n ∧ n ≤ 40 := by omega
  have hf1 : f < 1000 := by omega
  have HP := Lib.hid (fun W' (h : Below W.heap.size W W') => play_any x y hx hy B m cB ops W' (hr.after h) ho hm)
  rw [← hf, ← hn] at HP
  clear hf hn hx hy hr ho hm
  go_enter Try.func11, Try.ntmps11
  go_wp2_with fail
  refine (known_any W).mono ?_
  rintro e w1 ⟨rfl, hb1⟩
  have B1 := Lib.hid hb1
  clear hb1
  go_wp2_with fail
  refine (HP.out w1 B1.out).mono ?_
  rintro e w2 ⟨v, v2, rfl, ⟨b, s, l, A, c, rfl, rfl, hmp, hsm, hln, hrd, hA, hs⟩, hb⟩
  rw [hln] at hrd
  have hb2 := bl_tr2E B1.out hb B1.out.size
  have hbl := (Below.refl _ w2).alloc (Nat.le_refl _) (.cells #[.int .i64 (f : Nat), .slice A n c] 28)
  have B2 := Lib.hid (hb2.alloc hb2.size (.cells #[.int .i64 (f : Nat), .slice A n c] 28))
  have M2 := Lib.hid (hmp.after hbl); have R2 := Lib.hid (hrd.after hbl); have T2 := Lib.hid (Blk.new w2 28 #[.int .i64 (f : Nat), .slice A n c])
  have HSm := Lib.hid hsm; have HLn := Lib.hid hln
  clear hb hb2 hbl hmp hsm hln hrd hA hs B1 HP
  unfold RM
  go_wp2_with fail
  generalize w2.alloc (.cells #[.int .i64 (f : Nat), .slice A n c] 28) = w3 at B2 M2 R2 T2 ⊢
  refine (encode_any b s f l w3 M2.out).mono ?_
  rintro e w4 ⟨rfl, hb⟩
  have B4 := Lib.hid (bl_tr2E B2.out hb B2.out.size); have M4 := Lib.hid (M2.out.after hb); have R4 := Lib.hid (R2.out.after hb); have T4 := Lib.hid (T2.out.after hb)
  clear hb B2 M2 R2 T2
  have hD := decode_any (encB f l)
  have hde := dec_enc f l (by omega) (by have := HLn.out; omega) (by have := HLn.out; omega)
  rw [map_kept l HSm.out] at hde
  have hel := encB_len f l (by have := HLn.out; omega)
  have HD := Lib.hid hD; have HDE := Lib.hid hde; have HEL := Lib.hid hel
  have HEK := Lib.hid (enc_kept f l HSm.out)
  have HRE := Lib.hid (fun W (hr : Rd W W.heap.size LI A n (RL l)) => rencode_any f c l A W (by rw [HLn.out]; exact hr) (by omega) (by have := HLn.out; omega))
  have HRC := Lib.hid (fun W (hr : Rd W W.heap.size LI A n (RL l)) => rcommit_any f c l A W (by rw [HLn.out]; exact hr) (by have := HLn.out; omega) HSm.out)
  rw [HLn.out] at HRE HRC
  have HGL : Hid ((l.map gK).length = n) := Lib.hid (by rw [List.length_map]; exact HLn.out)
  rw [show l.map (nx [0, 1, 1, 0]) = l.map gK from rfl] at HRC
  unfold RM at HRE HRC
  generalize encB f l = E at HD HDE HEL HEK HRE ⊢
  generalize l.map gK = lk at HDE HEK HRC HGL
  clear hD hde hel
  go_wp2_with fail
  refine (HD.out w4 (by have := HEL.out; omega)).mono ?_
  rintro e w5 ⟨hor, hb⟩
  rcases hor with ⟨h0, -⟩ | ⟨f', l', b', s', h0, rfl, hmp, hs'⟩
  · rw [HDE.out] at h0; cases h0
  rw [HDE.out] at h0
  injection h0 with h0
  injection h0 with h1 h2
  subst h1; subst h2
  have B5 := Lib.hid (bl_tr2E B4.out hb B4.out.size); have M5 := Lib.hid (M4.out.after hb); have R5 := Lib.hid (R4.out.after hb); have T5 := Lib.hid (T4.out.after hb); have D5 := Lib.hid hmp
  clear hb hmp hs' B4 M4 R4 T4 HD HDE
  have t0 : w5.cell? ⟨w2.heap.size, 0, none⟩ = some (.int .i64 (f : Nat)) := T5.out.cell 0
  have t1 : w5.cell? ⟨w2.heap.size, 1, none⟩ = some (.slice A n c) := T5.out.cell 1
  go_wp2_with fail
  refine (HRE.out w5 R5.out).mono ?_
  rintro e w6 ⟨rfl, hb⟩
  have B6 := Lib.hid (bl_tr2E B5.out hb B5.out.size); have M6 := Lib.hid (M5.out.after hb); have R6 := Lib.hid (R5.out.after hb); have T6 := Lib.hid (T5.out.after hb); have D6 := Lib.hid (D5.out.after hb)
  clear hb B5 M5 R5 T5 D5 t0 t1 HRE
  have t0 : w6.cell? ⟨w2.heap.size, 0, none⟩ = some (.int .i64 (f : Nat)) := T6.out.cell 0
  have t1 : w6.cell? ⟨w2.heap.size, 1, none⟩ = some (.slice A n c) := T6.out.cell 1
  go_wp2_with fail
  refine (HRC.out w6 R6.out).mono ?_
  rintro e w7 ⟨v7, rfl, ⟨A7, c7, rfl, hr7, -⟩, hb⟩
  rw [HGL.out] at hr7 ⊢
  have B7 := Lib.hid (bl_tr2E B6.out hb B6.out.size); have M7 := Lib.hid (M6.out.after hb); have R7 := Lib.hid (R6.out.after hb); have T7 := Lib.hid (T6.out.after hb); have D7 := Lib.hid (D6.out.after hb); have H7 := Lib.hid hr7
  clear hb hr7 B6 M6 R6 T6 D6 t0 t1 HRC
  have HS7 := Lib.hid (Same_any b' s' f c7 lk A7 w7 D7.out (by rw [HGL.out]; exact H7.out))
  rw [HGL.out] at HS7
  unfold RM at HS7 ⊢
  go_wp2_with fail
  refine HS7.out.mono ?_
  rintro e w8 ⟨rfl, hb⟩
  have B8 := Lib.hid (bl_tr2E B7.out hb B7.out.size); have M8 := Lib.hid (M7.out.after hb); have R8 := Lib.hid (R7.out.after hb); have T8 := Lib.hid (T7.out.after hb); have D8 := Lib.hid (D7.out.after hb)
  clear hb H7 HS7 B7 M7 R7 T7 D7
  go_wp2_with fail
  refine (encode_any b' s' f lk w8 D8.out).mono ?_
  rintro e w9 ⟨rfl, hb⟩
  rw [HEK.out]
  have B9 := Lib.hid (bl_tr2E B8.out hb B8.out.size); have M9 := Lib.hid (M8.out.after hb); have R9 := Lib.hid (R8.out.after hb); have T9 := Lib.hid (T8.out.after hb)
  clear hb B8 M8 R8 T8 D8
  have t0 : w9.cell? ⟨w2.heap.size, 0, none⟩ = some (.int .i64 (f : Nat)) := T9.out.cell 0
  have t1 : w9.cell? ⟨w2.heap.size, 1, none⟩ = some (.slice A n c) := T9.out.cell 1
  have HS9 := Lib.hid (Same_any b s f c l A w9 M9.out (by rw [HLn.out]; exact R9.out))
  rw [HLn.out] at HS9
  unfold RM at HS9
  go_wp2_with fail
  refine HS9.out.mono ?_
  rintro e w10 ⟨rfl, hb⟩
  have B10 := Lib.hid (bl_tr2E B9.out hb B9.out.size)
  clear hb B9 M9 R9 T9 t0 t1 HS9
  go_wp2
  go_returns
  exact ⟨rfl, B10.out⟩
end Go.Proofs.Ytbeemkamjachpaa
