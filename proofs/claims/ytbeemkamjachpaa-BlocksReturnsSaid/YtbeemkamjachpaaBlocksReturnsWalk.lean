/- The walk of BlocksReturns. -/
import Derived.Test.YtbeemkamjachpaaB26
namespace Go.Proofs.Ytbeemkamjachpaa
open Go.RowKit
set_option maxRecDepth 100000
theorem four {x : UInt8} (h : x.toNat < 4) : x = 0 ∨ x = 1 ∨ x = 2 ∨ x = 3 := by
  have : x.toNat = 0 ∨ x.toNat = 1 ∨ x.toNat = 2 ∨ x.toNat = 3 := by omega
  rcases this with h | h | h | h
  · exact .inl (UInt8.toNat_inj.1 h)
  · exact .inr (.inl (UInt8.toNat_inj.1 h))
  · exact .inr (.inr (.inl (UInt8.toNat_inj.1 h)))
  · exact .inr (.inr (.inr (UInt8.toNat_inj.1 h)))
theorem inL_map (f : Nat) (l : List UInt8) (g : UInt8 → UInt8) (t t' : List Int) (h : ∀ x ∈ l, (((g x).toNat : Int) ∈ t ↔ (x.toNat : Int) ∈ t')) : inL f (l.map g) t (l.map g).length = inL f l t' l.length := by
  rw [List.length_map]
  unfold inL
  congr 1
  apply List.filter_congr
  intro j hj
  have hj' : j < l.length := List.mem_range.1 hj
  have e : (l.map g).getD j 0 = g (l.getD j 0) := by
    rw [List.getD_eq_getElem?_getD, List.getElem?_map, List.getD_eq_getElem?_getD, List.getElem?_eq_getElem hj']; rfl
  have hm : l.getD j 0 ∈ l := by rw [List.getD_eq_getElem?_getD, List.getElem?_eq_getElem hj']; exact List.getElem_mem _
  rw [e]
  have := h _ hm
  by_cases hh : ((l.getD j 0).toNat : Int) ∈ t'
  · rw [decide_eq_true hh, decide_eq_true (this.2 hh)]
  · rw [decide_eq_false hh, decide_eq_false fun h => hh (this.1 h)]
theorem inL_nil (f : Nat) (l : List UInt8) (t : List Int) (h : ∀ x ∈ l, ¬ (x.toNat : Int) ∈ t) : inL f l t l.length = [] := by
  unfold inL
  rw [List.map_eq_nil_iff, List.filter_eq_nil_iff]
  intro j hj
  have hj' : j < l.length := List.mem_range.1 hj
  have hm : l.getD j 0 ∈ l := by rw [List.getD_eq_getElem?_getD, List.getElem?_eq_getElem hj']; exact List.getElem_mem _
  simpa using h _ hm
def gA := nx [0, 1, 0, 1]
def gC := nx [0, 1, 1, 0]
theorem ab12 (f : Nat) (l : List UInt8) (h : small l) : inL f (l.map gA) [1, 2] (l.map gA).length = inL f l [1, 3] l.length := inL_map f l _ _ _ fun x hx => by
  rcases four (h x hx) with rfl | rfl | rfl | rfl <;> decide
theorem ab13 (f : Nat) (l : List UInt8) (h : small l) : inL f (l.map gA) [1, 3] (l.map gA).length = inL f l [1, 3] l.length := inL_map f l _ _ _ fun x hx => by
  rcases four (h x hx) with rfl | rfl | rfl | rfl <;> decide
theorem co12 (f : Nat) (l : List UInt8) (h : small l) : inL f (l.map gC) [1, 2] (l.map gC).length = inL f l [1, 2] l.length := inL_map f l _ _ _ fun x hx => by
  rcases four (h x hx) with rfl | rfl | rfl | rfl <;> decide
theorem co13 (f : Nat) (l : List UInt8) (h : small l) : inL f (l.map gC) [1, 3] (l.map gC).length = inL f l [1, 2] l.length := inL_map f l _ _ _ fun x hx => by
  rcases four (h x hx) with rfl | rfl | rfl | rfl <;> decide
theorem no_A (f : Nat) (l : List UInt8) (h : small l) (z : Int) (hz : z = 2 ∨ z = 3) : inL f (l.map gA) [z] (l.map gA).length = [] := inL_nil f _ _ fun x hx => by
  obtain ⟨y, hy, rfl⟩ := List.mem_map.1 hx
  rcases hz with rfl | rfl <;> rcases four (h y hy) with rfl | rfl | rfl | rfl <;> decide
theorem no_C (f : Nat) (l : List UInt8) (h : small l) (z : Int) (hz : z = 2 ∨ z = 3) : inL f (l.map gC) [z] (l.map gC).length = [] := inL_nil f _ _ fun x hx => by
  obtain ⟨y, hy, rfl⟩ := List.mem_map.1 hx
  rcases hz with rfl | rfl <;> rcases four (h y hy) with rfl | rfl | rfl | rfl <;> decide
theorem ssame (A1 : Option Addr) (n1 c1 : Nat) (l1 : List Int) (A2 : Option Addr) (n2 c2 : Nat) (W : World) (h1 : Rd W W.heap.size LI A1 n1 l1) (h2 : Rd W W.heap.size LI A2 n2 l1) (hn1 : l1.length ≤ 65536) :
    Calls Try.prog 28 #[.slice A1 n1 c1, .slice A2 n2 c2] W fun e w' => e = .returned (.bool true) ∧ Below W.heap.size W w' := by
  have := same_any A1 n1 c1 l1 A2 n2 c2 l1 W h1 h2 (by have := h1.len; omega)
  simpa using this
theorem bl_tr2 {N : Nat} {a w w' : World} (h : Below N a w) (k : Below w.heap.size w w') (hN : N ≤ w.heap.size) : Below N a w' := h.trans (k.mono hN)
set_option maxHeartbeats 4000000 in
theorem blocksReturns_walk (x y : Nat) (hx : x < 65536) (hy : y < 256) (B : Option Addr) (m cB : Nat) (ops : List OV) (W : World) (hr : Rd W W.heap.size LO B m ops) (ho : ∀ z ∈ ops, -9223372036854775808 ≤ z.block ∧ z.block ≤ 9223372036854775807) (hm : m ≤ 9223372036854775807) :
    Calls Try.prog 6 #[.int .u16 (x : Nat), .int .u8 (y : Nat), .slice B m cB] W fun e w' => e = .returned (.bool true) ∧ Below W.heap.size W w' := by
  obtain ⟨f, hf⟩ : ∃ f, f = x % 1000 := ⟨_, rfl⟩
  obtain ⟨n, hn⟩ : ∃ n, n = 1 + y % 40 := ⟨_, rfl⟩
  have hn1 : 1 ≤ n ∧ n ≤ 40 := by omega
  have HP := Lib.hid (fun W' (h : Below W.heap.size W W') => play_any x y hx hy B m cB ops W' (hr.after h) ho hm)
  rw [← hf, ← hn] at HP
  clear hf hn hx hy hr ho hm
  go_enter Try.func6, Try.ntmps6
  go_wp2_with fail
  refine (known_any W).mono ?_
  rintro e w1 ⟨rfl, hb1⟩
  have B1 := Lib.hid hb1
  clear hb1
  go_wp2_with fail
  refine (HP.out w1 B1.out).mono ?_
  rintro e w2 ⟨v, v2, rfl, ⟨b, s, l, A, c, rfl, rfl, hmp, hsm, hln, hrd, hA, hs⟩, hb⟩
  have hb2 := bl_tr2 B1.out hb B1.out.size
  have B2 := Lib.hid (hb2.alloc hb2.size (.cells #[.int .i64 (f : Nat), .slice A n c] 28))
  have M2 := Lib.hid (hmp.after ((Below.refl _ w2).alloc (Nat.le_refl _) (.cells #[.int .i64 (f : Nat), .slice A n c] 28)))
  have hsW : W.heap.size ≤ s := Nat.le_trans B1.out.size hs
  have hslt : s < (w2.alloc (.cells #[.int .i64 (f : Nat), .slice A n c] 28)).heap.size := by have := hmp.lt.2; simp; omega
  have HSm := Lib.hid hsm; have HLn := Lib.hid hln; have HSW := Lib.hid hsW; have HST := Lib.hid hslt
  clear hb hb2 hmp hsm hln hrd hA hs B1 HP hsW hslt
  unfold RM
  go_wp2_with fail
  generalize w2.alloc (.cells #[.int .i64 (f : Nat), .slice A n c] 28) = w3 at B2 M2 HST ⊢
  refine (old_any b s f l w3 M2.out).mono ?_
  rintro e w4 ⟨A4, n4, c4, rfl, hown, hb⟩
  have B4 := Lib.hid (bl_tr2 B2.out hb B2.out.size); have M4 := Lib.hid (M2.out.after hb); have O4 := Lib.hid hown; have S4 := Lib.hid (Nat.lt_of_lt_of_le HST.out hb.size)
  clear hb hown B2 M2
  go_wp2_with fail
  refine (used_any b s f l w4 M4.out).mono ?_
  rintro e w5 ⟨A5, n5, c5, rfl, hown, hb⟩
  have B5 := Lib.hid (bl_tr2 B4.out hb B4.out.size); have M5 := Lib.hid (M4.out.after hb); have O5 := Lib.hid (O4.out.after hb); have U5 := Lib.hid hown; have S5 := Lib.hid (Nat.lt_of_lt_of_le S4.out hb.size)
  clear hb hown B4 M4 O4
  go_wp2_with fail
  refine (clone_any b s f l w5 M5.out (by have := HLn.out; omega)).mono ?_
  rintro e w6 ⟨b', s', rfl, hm6, hs6, hb⟩
  have B6 := Lib.hid (bl_tr2 B5.out hb B5.out.size); have M6 := Lib.hid (M5.out.after hb); have O6 := Lib.hid (O5.out.after hb); have U6 := Lib.hid (U5.out.after hb); have C6 := Lib.hid hm6
  have hss : s < s' := Nat.lt_of_lt_of_le S5.out hs6
  have hob : ∀ k, (Value.slice A4 n4 c4).ownBlock = some k → k ≠ s ∧ k ≠ s' := fun k hk => by
    have h1 := O5.out.lt k hk; have h2 := HST.out; omega
  have hub : ∀ k, (Value.slice A5 n5 c5).ownBlock = some k → k ≠ s ∧ k ≠ s' := fun k hk => by
    have h1 := U5.out.lt k hk; have h2 := S4.out; omega
  have HOB := Lib.hid hob; have HUB := Lib.hid hub; have HSS := Lib.hid hss
  clear hb hm6 hs6 B5 M5 O5 U5 hob hub hss
  have ne1 : b' ≠ s := by
    obtain ⟨_, _, _, k1⟩ := C6.out.blk; obtain ⟨_, k2⟩ := M6.out.st; exact k1.ne_ k2 (by decide)
  have ne2 : b ≠ s' := by
    obtain ⟨_, _, _, k1⟩ := M6.out.blk; obtain ⟨_, k2⟩ := C6.out.st; exact k1.ne_ k2 (by decide)
  have N1 := Lib.hid ne1; have N2 := Lib.hid ne2
  clear ne1 ne2
  go_wp2_with fail
  refine (abort_any b s f l w6 M6.out HSm.out).mono ?_
  rintro e w7 ⟨rfl, hm7, hk⟩
  have M7 : Hid (MpAt w7 b s f (l.map gA)) := Lib.hid hm7
  have C7 := Lib.hid (C6.out.kept hk (fun h => N1.out h) (fun h => by have := HSS.out; omega)); have O7 := Lib.hid (O6.out.kept hk fun k hk => (HOB.out k hk).1); have U7 := Lib.hid (U6.out.kept hk fun k hk => (HUB.out k hk).1)
  have B7 := Lib.hid (bk B6.out hk (Nat.le_refl _) HSW.out)
  clear hm7 hk B6 M6 C6 O6 U6
  go_wp2_with fail
  refine (commit_any b' s' f l w7 C7.out HSm.out).mono ?_
  rintro e w8 ⟨rfl, hm8, hk⟩
  have C8 : Hid (MpAt w8 b' s' f (l.map gC)) := Lib.hid hm8
  have M8 := Lib.hid (M7.out.kept hk (fun h => N2.out h) (fun h => by have := HSS.out; omega)); have O8 := Lib.hid (O7.out.kept hk fun k hk => (HOB.out k hk).2); have U8 := Lib.hid (U7.out.kept hk fun k hk => (HUB.out k hk).2)
  have B8 := Lib.hid (bk B7.out hk (Nat.le_refl _) (by have := HSW.out; have := HSS.out; omega))
  clear hm8 hk B7 M7 C7 O7 U7
  have L13 : Hid ((inL f l [1, 3] l.length).length ≤ 65536) := Lib.hid (Nat.le_trans (inL_len _ _ _ _) (by have := HLn.out; omega))
  have L12 : Hid ((inL f l [1, 2] l.length).length ≤ 65536) := Lib.hid (Nat.le_trans (inL_len _ _ _ _) (by have := HLn.out; omega))
  have Q1 : Hid (∀ w, MpAt w b s f (l.map gA) → Calls Try.prog 18 #[.pointer (some ⟨b, 0, none⟩)] w fun e w' => ∃ A m c, e = .returned (.slice A m c) ∧ Own w' w.heap.size 3 LI (.slice A m c) (inL f l [1, 3] l.length) ∧ Below w.heap.size w w') := Lib.hid fun w hw => by have h := used_any b s f (l.map gA) w hw; rw [ab12 f l HSm.out] at h; exact h
  have Q2 : Hid (∀ w, MpAt w b s f (l.map gA) → Calls Try.prog 17 #[.pointer (some ⟨b, 0, none⟩)] w fun e w' => ∃ A m c, e = .returned (.slice A m c) ∧ Own w' w.heap.size 3 LI (.slice A m c) (inL f l [1, 3] l.length) ∧ Below w.heap.size w w') := Lib.hid fun w hw => by have h := old_any b s f (l.map gA) w hw; rw [ab13 f l HSm.out] at h; exact h
  have Q3 : Hid (∀ w, MpAt w b' s' f (l.map gC) → Calls Try.prog 18 #[.pointer (some ⟨b', 0, none⟩)] w fun e w' => ∃ A m c, e = .returned (.slice A m c) ∧ Own w' w.heap.size 3 LI (.slice A m c) (inL f l [1, 2] l.length) ∧ Below w.heap.size w w') := Lib.hid fun w hw => by have h := used_any b' s' f (l.map gC) w hw; rw [co12 f l HSm.out] at h; exact h
  have Q4 : Hid (∀ w, MpAt w b' s' f (l.map gC) → Calls Try.prog 17 #[.pointer (some ⟨b', 0, none⟩)] w fun e w' => ∃ A m c, e = .returned (.slice A m c) ∧ Own w' w.heap.size 3 LI (.slice A m c) (inL f l [1, 2] l.length) ∧ Below w.heap.size w w') := Lib.hid fun w hw => by have h := old_any b' s' f (l.map gC) w hw; rw [co13 f l HSm.out] at h; exact h
  have Q5 : Hid (∀ w (z : Int), z = 2 ∨ z = 3 → MpAt w b s f (l.map gA) → Calls Try.prog 20 #[.pointer (some ⟨b, 0, none⟩), .int .i64 z] w fun e w' => e = .returned (.int .i64 0) ∧ Below w.heap.size w w') := Lib.hid fun w z hz hw => by have h := number_any b s f (l.map gA) z w hw; rw [no_A f l HSm.out z hz] at h; exact h
  have Q6 : Hid (∀ w (z : Int), z = 2 ∨ z = 3 → MpAt w b' s' f (l.map gC) → Calls Try.prog 20 #[.pointer (some ⟨b', 0, none⟩), .int .i64 z] w fun e w' => e = .returned (.int .i64 0) ∧ Below w.heap.size w w') := Lib.hid fun w z hz hw => by have h := number_any b' s' f (l.map gC) z w hw; rw [no_C f l HSm.out z hz] at h; exact h
  go_wp2_with fail
  refine (Q1.out w8 M8.out).mono ?_
  rintro e w9 ⟨A9, n9, c9, rfl, hown, hb⟩
  have B9 := Lib.hid (bl_tr2 B8.out hb B8.out.size); have M9 := Lib.hid (M8.out.after hb); have C9 := Lib.hid (C8.out.after hb); have O9 := Lib.hid (O8.out.after hb); have U9 := Lib.hid (U8.out.after hb); have T9 := Lib.hid hown
  clear hb hown B8 M8 C8 O8 U8
  go_wp2_with fail
  refine (ssame A9 n9 c9 _ A4 n4 c4 w9 T9.out.rd O9.out.rd L13.out).mono ?_
  rintro e w10 ⟨rfl, hb⟩
  have B10 := Lib.hid (bl_tr2 B9.out hb B9.out.size); have M10 := Lib.hid (M9.out.after hb); have C10 := Lib.hid (C9.out.after hb); have O10 := Lib.hid (O9.out.after hb); have U10 := Lib.hid (U9.out.after hb)
  clear hb B9 M9 C9 O9 U9 T9
  go_wp2_with fail
  refine (Q2.out w10 M10.out).mono ?_
  rintro e w11 ⟨A11, n11, c11, rfl, hown, hb⟩
  have B11 := Lib.hid (bl_tr2 B10.out hb B10.out.size); have M11 := Lib.hid (M10.out.after hb); have C11 := Lib.hid (C10.out.after hb); have O11 := Lib.hid (O10.out.after hb); have U11 := Lib.hid (U10.out.after hb); have T11 := Lib.hid hown
  clear hb hown B10 M10 C10 O10 U10
  go_wp2_with fail
  refine (ssame A11 n11 c11 _ A4 n4 c4 w11 T11.out.rd O11.out.rd L13.out).mono ?_
  rintro e w12 ⟨rfl, hb⟩
  have B12 := Lib.hid (bl_tr2 B11.out hb B11.out.size); have M12 := Lib.hid (M11.out.after hb); have C12 := Lib.hid (C11.out.after hb); have O12 := Lib.hid (O11.out.after hb); have U12 := Lib.hid (U11.out.after hb)
  clear hb B11 M11 C11 O11 U11 T11
  go_wp2_with fail
  refine (Q3.out w12 C12.out).mono ?_
  rintro e w13 ⟨A13, n13, c13, rfl, hown, hb⟩
  have B13 := Lib.hid (bl_tr2 B12.out hb B12.out.size); have M13 := Lib.hid (M12.out.after hb); have C13 := Lib.hid (C12.out.after hb); have O13 := Lib.hid (O12.out.after hb); have U13 := Lib.hid (U12.out.after hb); have T13 := Lib.hid hown
  clear hb hown B12 M12 C12 O12 U12
  go_wp2_with fail
  refine (ssame A13 n13 c13 _ A5 n5 c5 w13 T13.out.rd U13.out.rd L12.out).mono ?_
  rintro e w14 ⟨rfl, hb⟩
  have B14 := Lib.hid (bl_tr2 B13.out hb B13.out.size); have M14 := Lib.hid (M13.out.after hb); have C14 := Lib.hid (C13.out.after hb); have O14 := Lib.hid (O13.out.after hb); have U14 := Lib.hid (U13.out.after hb)
  clear hb B13 M13 C13 O13 U13 T13
  go_wp2_with fail
  refine (Q4.out w14 C14.out).mono ?_
  rintro e w15 ⟨A15, n15, c15, rfl, hown, hb⟩
  have B15 := Lib.hid (bl_tr2 B14.out hb B14.out.size); have M15 := Lib.hid (M14.out.after hb); have C15 := Lib.hid (C14.out.after hb); have O15 := Lib.hid (O14.out.after hb); have U15 := Lib.hid (U14.out.after hb); have T15 := Lib.hid hown
  clear hb hown B14 M14 C14 O14 U14
  go_wp2_with fail
  refine (ssame A15 n15 c15 _ A5 n5 c5 w15 T15.out.rd U15.out.rd L12.out).mono ?_
  rintro e w16 ⟨rfl, hb⟩
  have B16 := Lib.hid (bl_tr2 B15.out hb B15.out.size); have M16 := Lib.hid (M15.out.after hb); have C16 := Lib.hid (C15.out.after hb); have O16 := Lib.hid (O15.out.after hb); have U16 := Lib.hid (U15.out.after hb)
  clear hb B15 M15 C15 O15 U15 T15
  go_wp2_with fail
  refine (Q5.out w16 _ (.inl rfl) M16.out).mono ?_
  rintro e w17 ⟨rfl, hb⟩
  have B17 := Lib.hid (bl_tr2 B16.out hb B16.out.size); have M17 := Lib.hid (M16.out.after hb); have C17 := Lib.hid (C16.out.after hb)
  clear hb B16 M16 C16
  go_wp2_with fail
  refine (Q5.out w17 _ (.inr rfl) M17.out).mono ?_
  rintro e w18 ⟨rfl, hb⟩
  have B18 := Lib.hid (bl_tr2 B17.out hb B17.out.size); have M18 := Lib.hid (M17.out.after hb); have C18 := Lib.hid (C17.out.after hb)
  clear hb B17 M17 C17
  go_wp2_with fail
  refine (Q6.out w18 _ (.inl rfl) C18.out).mono ?_
  rintro e w19 ⟨rfl, hb⟩
  have B19 := Lib.hid (bl_tr2 B18.out hb B18.out.size); have M19 := Lib.hid (M18.out.after hb); have C19 := Lib.hid (C18.out.after hb)
  clear hb B18 M18 C18
  go_wp2_with fail
  refine (Q6.out w19 _ (.inr rfl) C19.out).mono ?_
  rintro e w20 ⟨rfl, hb⟩
  have B20 := Lib.hid (bl_tr2 B19.out hb B19.out.size); have M20 := Lib.hid (M19.out.after hb); have C20 := Lib.hid (C19.out.after hb)
  clear hb B19 M19 C19
  go_wp2
  go_returns
  exact ⟨rfl, B20.out⟩
end Go.Proofs.Ytbeemkamjachpaa
