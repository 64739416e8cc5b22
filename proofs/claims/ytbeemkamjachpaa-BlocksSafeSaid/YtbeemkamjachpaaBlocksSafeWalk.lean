/- The walk of BlocksSafe. -/
import Derived.Test.YtbeemkamjachpaaB26
namespace Go.Proofs.Ytbeemkamjachpaa
open Go.RowKit
set_option maxRecDepth 100000
theorem bl_tr2 {N : Nat} {a w w' : World} (h : Below N a w) (k : Below w.heap.size w w') (hN : N ≤ w.heap.size) : Below N a w' := h.trans (k.mono hN)
theorem ffree_spec : ∀ (l : List UInt8) (i m : Nat), ffree l i = some m → ∃ k, m = i + k ∧ k < l.length ∧ l.getD k 0 = 0 := by
  intro l
  induction l with
  | nil => intro i m h; cases h
  | cons x r ih =>
    intro i m h
    unfold ffree at h
    by_cases hx : x = 0
    · rw [if_pos hx] at h
      cases h
      exact ⟨0, rfl, by simp, by simpa using hx⟩
    · rw [if_neg hx] at h
      obtain ⟨k, h1, h2, h3⟩ := ih (i + 1) m h
      exact ⟨k + 1, by omega, by simpa using h2, by simpa using h3⟩
theorem ffree_all : ∀ (l : List UInt8) (i : Nat), ffree l i = none → ∀ x ∈ l, x ≠ 0 := by
  intro l
  induction l with
  | nil => intro i _ x hx; cases hx
  | cons a r ih =>
    intro i h x hx
    unfold ffree at h
    by_cases ha : a = 0
    · rw [if_pos ha] at h; cases h
    · rw [if_neg ha] at h
      rcases List.mem_cons.1 hx with rfl | hx
      · exact ha
      · exact ih _ h x hx
theorem inL_mem (f : Nat) (l : List UInt8) (t : List Int) (j : Nat) (y : Int) (h : y ∈ inL f l t j) : ∃ k, y = (f : Int) + (k : Nat) ∧ ((l.getD k 0).toNat : Int) ∈ t := by
  obtain ⟨k, hk, rfl⟩ := List.mem_map.1 h
  exact ⟨k, rfl, of_decide_eq_true (List.mem_filter.1 hk).2⟩
theorem inL_zero (f : Nat) (l : List UInt8) (h : ∀ x ∈ l, x ≠ 0) : inL f l [0] l.length = [] := by
  unfold inL
  rw [List.map_eq_nil_iff, List.filter_eq_nil_iff]
  intro j hj
  have hj' : j < l.length := List.mem_range.1 hj
  have hm : l.getD j 0 ∈ l := by rw [List.getD_eq_getElem?_getD, List.getElem?_eq_getElem hj']; exact List.getElem_mem _
  have := h _ hm
  intro hd
  exact this ((in0 _).1 (of_decide_eq_true hd))
theorem inL_set (f : Nat) (l : List UInt8) (t : List Int) (k : Nat) (y : UInt8) (hk : k < l.length) (hy : (y.toNat : Int) ∈ t) (hl : ¬ ((l.getD k 0).toNat : Int) ∈ t) : ∀ j, (inL f (l.set k y) t j).length = (inL f l t j).length + if k < j then 1 else 0 := by
  intro j
  induction j with
  | zero => rfl
  | succ j ih =>
    rw [inL_succ, inL_succ, List.length_append, List.length_append, ih]
    by_cases hj : j = k
    · subst hj
      have e : (l.set j y).getD j 0 = y := by rw [List.getD_eq_getElem?_getD, List.getElem?_set_self hk]; rfl
      rw [e, if_pos hy, if_neg hl, if_neg (by omega), if_pos (by omega)]
      rfl
    · have e : (l.set k y).getD j 0 = l.getD j 0 := by rw [List.getD_eq_getElem?_getD, List.getElem?_set_ne (by omega), ← List.getD_eq_getElem?_getD]
      rw [e]
      by_cases h1 : k < j
      · have q1 : (if k < j then 1 else 0 : Nat) = 1 := if_pos h1
        have q2 : (if k < j + 1 then 1 else 0 : Nat) = 1 := if_pos (by omega)
        rw [q1, q2]; omega
      · have q1 : (if k < j then 1 else 0 : Nat) = 0 := if_neg h1
        have q2 : (if k < j + 1 then 1 else 0 : Nat) = 0 := if_neg (by omega)
        rw [q1, q2]; omega
set_option maxHeartbeats 4000000 in
theorem blocksSafe_walk (x y : Nat) (hx : x < 65536) (hy : y < 256) (B : Option Addr) (m cB : Nat) (ops : List OV) (W : World) (hr : Rd W W.heap.size LO B m ops) (ho : ∀ z ∈ ops, -9223372036854775808 ≤ z.block ∧ z.block ≤ 9223372036854775807) (hm : m ≤ 9223372036854775807) :
    Calls Try.prog 4 #[.int .u16 (x : Nat), .int .u8 (y : Nat), .slice B m cB] W fun e w' => e = .returned (.bool true) ∧ Below W.heap.size W w' := by
  obtain ⟨f, hf⟩ : ∃ f, f = x % 1000 := ⟨_, rfl⟩
  obtain ⟨n, hn⟩ : ∃ n, n = 1 + y % 40 := ⟨_, rfl⟩
  have hn1 : 1 ≤ n ∧ n ≤ 40 := by omega
  have HP := Lib.hid (fun W' (h : Below W.heap.size W W') => play_any x y hx hy B m cB ops W' (hr.after h) ho hm)
  rw [← hf, ← hn] at HP
  clear hf hn hx hy hr ho hm
  go_enter Try.func4, Try.ntmps4
  go_wp2_with fail
  refine (known_any W).mono ?_
  rintro e w1 ⟨rfl, hb1⟩
  have B1 := Lib.hid hb1
  clear hb1
  go_wp2_with fail
  refine (HP.out w1 B1.out).mono ?_
  rintro e w2 ⟨v, v2, rfl, ⟨b, s, l, A, c, rfl, rfl, hmp, hsm, hln, hrd, hA, hs⟩, hb⟩
  have hb2 := bl_tr2 B1.out hb B1.out.size
  have B2 := Lib.hid (hb2.alloc hb2.size (.cells #[.int .i64 (f : Nat), .slice A n c] 28))
  have M2 := Lib.hid (hmp.after ((Below.refl _ w2).alloc (Nat.le_refl _) (.cells #[.int .i64 (f : Nat), .slice A n c] 28)))
  have hsW : W.heap.size ≤ s := Nat.le_trans B1.out.size hs
  have hslt : s < (w2.alloc (.cells #[.int .i64 (f : Nat), .slice A n c] 28)).heap.size := by have := hmp.lt.2; simp; omega
  have HSm := Lib.hid hsm; have HLn := Lib.hid hln; have HSW := Lib.hid hsW; have HST := Lib.hid hslt
  clear hb hb2 hmp hsm hln hrd hA hs B1 HP hsW hslt
  unfold RM
  go_wp2_with fail
  generalize w2.alloc (.cells #[.int .i64 (f : Nat), .slice A n c] 28) = w3 at B2 M2 HST ⊢
  refine (old_any b s f l w3 M2.out).mono ?_
  rintro e w4 ⟨A4, n4, c4, rfl, hown, hb⟩
  have B4 := Lib.hid (bl_tr2 B2.out hb B2.out.size); have M4 := Lib.hid (M2.out.after hb); have O4 := Lib.hid hown; have S4 := Lib.hid (Nat.lt_of_lt_of_le HST.out hb.size)
  clear hb hown B2 M2
  go_wp2_with fail
  refine (used_any b s f l w4 M4.out).mono ?_
  rintro e w5 ⟨A5, n5, c5, rfl, hown, hb⟩
  have B5 := Lib.hid (bl_tr2 B4.out hb B4.out.size); have M5 := Lib.hid (M4.out.after hb); have O5 := Lib.hid (O4.out.after hb); have U5 := Lib.hid hown; have S5 := Lib.hid (Nat.lt_of_lt_of_le S4.out hb.size)
  clear hb hown B4 M4 O4
  have HOB : Hid (0 < n4 → ∀ ad, A4 = some ad → ¬ ad.block = s) := Lib.hid fun _ ad had => by have h1 := O5.out.from_ ad.block (by rw [had]; rfl); have h2 := HST.out; omega
  have HUB : Hid (0 < n5 → ∀ ad, A5 = some ad → ¬ ad.block = s) := Lib.hid fun _ ad had => by have h1 := U5.out.from_ ad.block (by rw [had]; rfl); have h2 := S4.out; omega
  have R4 := Lib.hid O5.out.rd; have R5 := Lib.hid U5.out.rd
  have l4 := O5.out.cap; have l5 := U5.out.cap
  have hl0 : 0 < l.length := by have := HLn.out; omega
  have hl9 : l.length ≤ 40 := by have := HLn.out; omega
  have hb13 := inL_len f l [1, 3] l.length
  have hb12 := inL_len f l [1, 2] l.length
  have hn4 : n4 ≤ 40 := by omega
  have hn5 : n5 ≤ 40 := by omega
  have HF1 := Lib.hid M5.out.f1
  have hf1 := HF1.out
  clear O5 U5
  cases hff : ffree l 0 with
  | none =>
    have HZero := Lib.hid (show (inL f l [0] l.length).length = 0 by rw [inL_zero f l (ffree_all l 0 hff)]; rfl)
    have HT := Lib.hid (take_none b s f l w5 M5.out hff)
    clear hff l4 l5 hb13 hb12
    go_wp2_with fail
    refine HT.out.mono ?_
    rintro e w6 ⟨rfl, hb⟩
    have HN2 := Lib.hid (number_any b s f l 0 w6 (M5.out.after hb))
    have hnn : (inL f l [0] l.length).length = 0 := HZero.out
    rw [hnn] at HN2
    have B6 := Lib.hid (bl_tr2 B5.out hb B5.out.size)
    clear hb hnn
    go_wp2_with fail
    refine HN2.out.mono ?_
    rintro e w7 ⟨rfl, hb⟩
    have B7 := Lib.hid (bl_tr2 B6.out hb B6.out.size)
    clear hb
    go_wp2
    go_returns
    exact ⟨rfl, B7.out⟩
  | some k =>
    obtain ⟨k', hk', hkl, hk0⟩ := ffree_spec l 0 k hff
    obtain rfl : k = k' := by omega
    have HT := Lib.hid (take_some b s f l k w5 M5.out hff)
    have hno : ∀ t : List Int, ¬ (0 : Int) ∈ t → ∀ y ∈ inL f l t l.length, (y == (f : Int) + (k : Nat)) = false := fun t ht y hy => by
      obtain ⟨j, rfl, hj⟩ := inL_mem f l t _ y hy
      simp only [beq_eq_false_iff_ne, ne_eq]
      intro h
      have hjk : j = k := by omega
      subst hjk
      rw [hk0] at hj
      exact ht hj
    have HNo1 := Lib.hid (hno [1, 3] (by decide)); have HNo2 := Lib.hid (hno [1, 2] (by decide))
    have hcnt : (inL f (l.set k 2) [1, 2] (l.set k 2).length).length = n5 + 1 := by
      rw [List.length_set, inL_set f l [1, 2] k 2 hkl (by decide) (by rw [hk0]; decide) l.length, if_pos hkl, l5.1]
    have HCnt := Lib.hid hcnt
    have hl2 : (l.set k 2).length = l.length := List.length_set
    have HL2 := Lib.hid hl2
    have h4l := l4.1; have h5l := l5.1
    have H4L := Lib.hid h4l; have H5L := Lib.hid h5l
    have e1 : decide ((f : Int) ≤ (f : Int) + (k : Nat)) = true := decide_eq_true (by omega)
    have e2 : decide ((f : Int) + (k : Nat) < (f : Int) + (l.length : Nat)) = true := decide_eq_true (by omega)
    clear hff l4 l5 hb13 hb12 hno hcnt hk0 hk' h4l h5l hl2
    generalize inL f l [1, 3] l.length = L13 at R4 HNo1 H4L
    generalize inL f l [1, 2] l.length = L12 at R5 HNo2 H5L
    go_wp2_with fail
    refine HT.out.mono ?_
    rintro e w6 ⟨rfl, hm6, hk⟩
    have R46 := Lib.hid ((R4.out.kept hk (Nat.le_refl _) (fun h0 ad had hs => HOB.out h0 ad had hs)).more hk.size)
    have R56 := Lib.hid ((R5.out.kept hk (Nat.le_refl _) (fun h0 ad had hs => HUB.out h0 ad had hs)).more hk.size)
    have B6 := Lib.hid (bk B5.out hk (Nat.le_refl _) HSW.out)
    have M6 := Lib.hid hm6
    clear hm6 hk HT R4 R5
    go_wp2
    go_loopw [14] (fun v wr => ∃ i : Nat, i ≤ n4 ∧ v = .int .i64 (i : Nat) ∧ w6 = wr) (fun v _ => n4 - (intOf v).toNat)
    case atStart => exact ⟨0, by omega, rfl, rfl⟩
    case round =>
      obtain ⟨i, hi, rfl, rfl⟩ := hrel
      by_cases hlt : i < n4
      · obtain ⟨ba, o, y, rfl, -, hy, hc⟩ := R46.out.nth hlt
        have hyn := HNo1.out y (List.mem_of_getElem? hy)
        have d0 : w6.cell? ⟨ba, o + i, none⟩ = some (.int .i64 y) := by
          have := hc 0 _ rfl
          simpa [LI] using this
        clear hy hc
        go_wp2
        go_roundw
        case rel => exact ⟨i + 1, by omega, by go_num, trivial⟩
        case measure => simp [intOf]; omega
      · go_wp2
        go_loopw [15] (fun v wr => ∃ i : Nat, i ≤ n5 ∧ v = .int .i64 (i : Nat) ∧ w6 = wr) (fun v _ => n5 - (intOf v).toNat)
        case atStart => exact ⟨0, by omega, rfl, rfl⟩
        case round =>
          obtain ⟨j, hj, rfl, rfl⟩ := hrel
          by_cases hlt2 : j < n5
          · obtain ⟨ba, o, y, rfl, -, hy, hc⟩ := R56.out.nth hlt2
            have hyn := HNo2.out y (List.mem_of_getElem? hy)
            have d0 : w6.cell? ⟨ba, o + j, none⟩ = some (.int .i64 y) := by
              have := hc 0 _ rfl
              simpa [LI] using this
            clear hy hc
            go_wp2
            go_roundw
            case rel => exact ⟨j + 1, by omega, by go_num, trivial⟩
            case measure => simp [intOf]; omega
          · go_wp2_with fail
            refine (first_any b s f _ w6 M6.out).mono ?_
            rintro e w' ⟨rfl, rfl⟩
            go_wp2_with fail
            refine (first_any b s f _ w6 M6.out).mono ?_
            rintro e w' ⟨rfl, rfl⟩
            go_wp2_with fail
            refine (count_any b s f _ w6 M6.out).mono ?_
            rintro e w' ⟨rfl, rfl⟩
            rw [HL2.out]
            go_wp2_with fail
            refine (used_any b s f _ w6 M6.out).mono ?_
            rintro e w7 ⟨A7, n7, c7, rfl, hown, hb⟩
            have hn7 : n7 = n5 + 1 := by rw [← hown.cap.1]; exact HCnt.out
            have B7 := Lib.hid (bl_tr2 B6.out hb B6.out.size)
            clear hown hb
            subst hn7
            go_wp2
            go_returns
            exact ⟨rfl, B7.out⟩
end Go.Proofs.Ytbeemkamjachpaa
