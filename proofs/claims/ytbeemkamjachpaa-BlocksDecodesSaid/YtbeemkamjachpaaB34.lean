/- The reference's Decode, by a contract. -/
import Derived.Test.YtbeemkamjachpaaB33
namespace Go.Proofs.Ytbeemkamjachpaa
open Go.RowKit
set_option maxRecDepth 100000
def IV (l : List Int) : Array Value := (l.map fun x => Value.int .i64 x).toArray
set_option maxHeartbeats 1000000 in
theorem rnew_blk (f n : Nat) (W : World) (hf : f ≤ 1073741824) (h1 : 1 ≤ n) (hn : n ≤ 65536) : Calls Try.prog 30 #[.int .i64 (f : Nat), .int .i64 (n : Nat)] W fun e w' =>
    e = .returned (.tuple #[RM f (some ⟨W.heap.size + 1, 0, none⟩) n n, .int .i64 0]) ∧ Blk w' (W.heap.size + 1) 3 (IV (RL (List.replicate n 0))) ∧ Below W.heap.size W w' := by
  have hm := rmake_any (W.alloc (.cells #[.int .i64 0, .slice none 0 0] 28)) n hn
  simp only [World.size_alloc] at hm
  have e0 : decide (((f : Nat) : Int) < 0) = false := by simp
  have e1 : decide (1073741824 < ((f : Nat) : Int)) = false := by simp; omega
  have e2 : decide (((n : Nat) : Int) < 1) = false := by simp; omega
  have e3 : decide (65536 < ((n : Nat) : Int)) = false := by simp; omega
  have hb2 := ((Below.refl W.heap.size W).alloc (Nat.le_refl _) (.cells #[.int .i64 (f : Nat), .slice (some ⟨W.heap.size + 1, 0, none⟩) n n] 28)).alloc (by simp) (.cells (Array.replicate n (.int .i64 0)) 3)
  have k1 := Blk.new (W.alloc (.cells #[.int .i64 (f : Nat), .slice (some ⟨W.heap.size + 1, 0, none⟩) n n] 28)) 3 (Array.replicate n (.int .i64 0))
  simp only [World.size_alloc] at k1
  have hk : Blk ((W.alloc (.cells #[.int .i64 (f : Nat), .slice (some ⟨W.heap.size + 1, 0, none⟩) n n] 28)).alloc (.cells (Array.replicate n (.int .i64 0)) 3)) (W.heap.size + 1) 3 (IV (RL (List.replicate n 0))) := by
    unfold IV
    rw [RL_zero, List.map_replicate]
    simpa using k1
  have HB := Lib.hid hb2; have HK := Lib.hid hk
  unfold RM
  clear hf h1 hb2 k1 hk
  go_enter Try.func30, Try.ntmps30
  go_wp2
  go_returns
  exact ⟨rfl, by simpa using HK.out, HB.out⟩
theorem IV_set (l : List UInt8) (k : Nat) (x : UInt8) : (IV (RL l)).setIfInBounds k (.int .i64 (x.toNat : Int)) = IV (RL (l.set k x)) := by
  unfold IV RL
  rw [List.setIfInBounds_toArray, ← List.map_set, ← List.map_set]
/-- The states after the first k bits were read. -/
def stP (p c : Nat) (l : List UInt8) (k : Nat) : List UInt8 := stR p k l ++ List.replicate (c - k) 0
theorem stP_succ (p c : Nat) (l : List UInt8) (k : Nat) (hk : k < c) : stP p c l (k + 1) = (stP p c l k).set k (if bitB (l.drop p) k = true then 1 else 0) := by
  unfold stP
  rw [List.set_append_right _ _ (by rw [stR_len]; omega), stR_len, Nat.sub_self, show c - k = (c - (k + 1)) + 1 by omega, List.replicate_succ, List.set_cons_zero]
  unfold stR
  rw [List.range_succ, List.map_append, List.append_assoc]
  rfl
theorem stP_len (p c : Nat) (l : List UInt8) (k : Nat) (hk : k ≤ c) : (stP p c l k).length = c := by unfold stP; rw [List.length_append, stR_len, List.length_replicate]; omega
theorem stP_get (p c : Nat) (l : List UInt8) (k : Nat) (hk : k < c) : (stP p c l k).set k 0 = stP p c l k := by
  unfold stP
  rw [List.set_append_right _ _ (by rw [stR_len]; omega), stR_len, Nat.sub_self, show c - k = (c - (k + 1)) + 1 by omega, List.replicate_succ, List.set_cons_zero]
theorem stP_all (p c : Nat) (l : List UInt8) : stP p c l c = stR p c l := by unfold stP; rw [Nat.sub_self]; simp
theorem dR_no (l : List UInt8) (h : ¬ okR l) : dR l = none := by unfold dR; rw [if_neg (fun hh => h hh.1)]
set_option maxHeartbeats 4000000 in
theorem rdecode_any (l : List UInt8) (hl : l.length ≤ 100) (W : World) : Calls Try.prog 36 #[.string (str l)] W fun e w' =>
    ((dR l = none ∧ e = .returned (.tuple #[.agg #[.int .i64 0, .slice none 0 0], .int .i64 3])) ∨ (∃ f st A c, dR l = some (f, st) ∧ e = .returned (.tuple #[RM f A st.length c, .int .i64 0]) ∧ Rd w' w'.heap.size LI A st.length (RL st))) ∧ Below W.heap.size W w' := by
  have hno := dR_no l
  have hyes : dR l = dR l := rfl
  unfold okR posR at hno
  conv at hyes => rhs; unfold dR okR posR
  have T0 := Lib.hid (Blk.new W 28 #[.int .i64 0, .slice none 0 0]); have B0 := Lib.hid ((Below.refl W.heap.size W).alloc (Nat.le_refl _) (.cells #[.int .i64 0, .slice none 0 0] 28))
  have z1 := grp_size l 9
  obtain ⟨⟨f, a, e1⟩, hg1⟩ : ∃ g, grp l 9 = g := ⟨_, rfl⟩
  rw [hg1] at hno hyes z1
  simp only at hno hyes z1
  have z2 := grp_size (l.drop a) 9
  have s1 := grp_small l
  rw [hg1] at s1
  simp only at s1
  obtain ⟨⟨n, b, e2⟩, hg2⟩ : ∃ g, grp (l.drop a) 9 = g := ⟨_, rfl⟩
  have s2 := grp_small (l.drop a)
  rw [hg2] at hno hyes z2 s2
  simp only at hno hyes z2 s2
  have z3 := grp_size (l.drop (a + b)) 9
  have s3 := grp_small (l.drop (a + b))
  obtain ⟨⟨q, c, e3⟩, hg3⟩ : ∃ g, grp (l.drop (a + b)) 9 = g := ⟨_, rfl⟩
  rw [hg3] at hno hyes z3 s3
  simp only at hno hyes z3 s3
  rw [List.length_drop] at z2 z3
  obtain ⟨L, hL⟩ : ∃ L, l.length = L := ⟨_, rfl⟩
  have hsz : (str l).size = L := hL
  obtain ⟨ab, habe⟩ : ∃ x, a + b = x := ⟨_, rfl⟩
  rw [habe] at hno hyes z3 hg3
  rw [hL] at z1 z2 z3
  have hab : ab ≤ L := by omega
  have P1 : ∀ A c w, Rd w w.heap.size L8 A L l → Calls Try.prog 60 #[.slice A L c] w fun e w' => e = .returned (.tuple #[.int .i64 (f : Nat), .int .i64 (a : Nat), .int .i64 (e1 : Nat)]) ∧ w = w' := fun A c w hr => by
    have := parseR_any A L c l w hr (by omega)
    rw [hg1] at this; exact this
  have P2 : ∀ A c w, Rd w w.heap.size L8 A (L - a) (l.drop a) → Calls Try.prog 60 #[.slice A (L - a) c] w fun e w' => e = .returned (.tuple #[.int .i64 (n : Nat), .int .i64 (b : Nat), .int .i64 (e2 : Nat)]) ∧ w = w' := fun A c w hr => by
    have := parseR_any A (L - a) c (l.drop a) w hr (by omega)
    rw [hg2] at this; exact this
  have P3 : ∀ A c' w, Rd w w.heap.size L8 A (L - ab) (l.drop ab) → Calls Try.prog 60 #[.slice A (L - ab) c'] w fun e w' => e = .returned (.tuple #[.int .i64 (q : Nat), .int .i64 (c : Nat), .int .i64 (e3 : Nat)]) ∧ w = w' := fun A c' w hr => by
    have := parseR_any A (L - ab) c' (l.drop ab) w hr (by omega)
    rw [hg3] at this; exact this
  have X2 : (str l).extract a L = str (l.drop a) := by rw [str_extract, List.take_of_length_le (by rw [List.length_drop]; omega)]
  have X3 : (str l).extract ab L = str (l.drop ab) := by rw [str_extract, List.take_of_length_le (by rw [List.length_drop]; omega)]
  have D2 : (l.drop a).length = L - a := by rw [List.length_drop, hL]
  have D3 : (l.drop ab).length = L - ab := by rw [List.length_drop, hL]
  have hL6 : L ≤ 100 := by omega
  have HNo := Lib.hid hno; have HYes := Lib.hid hyes; have HP1 := Lib.hid P1; have HP2 := Lib.hid P2; have HP3 := Lib.hid P3; have HX2 := Lib.hid X2; have HX3 := Lib.hid X3; have HD2 := Lib.hid D2; have HD3 := Lib.hid D3; have HLl := Lib.hid hL; have HAb := Lib.hid habe
  clear hno hyes P1 P2 P3 X2 X3 D2 D3 hg1 hg2 hg3 hL hl habe
  go_enter Try.func36, Try.ntmps36
  go_wp2_with (refine conv_s rfl 9 78 (.tmp 14) rfl Try.underlying9 Try.underlying78 Try.underlying5 l rfl ?_)
  intro A1 c1 w1 hr1 _ hb1
  have hb1 : Below (W.alloc (.cells #[.int .i64 0, .slice none 0 0] 28)).heap.size (W.alloc (.cells #[.int .i64 0, .slice none 0 0] 28)) w1 := by simpa using hb1
  have HT := Lib.hid (T0.out.after hb1); have HB := Lib.hid (B0.out.trans (hb1.mono B0.out.size)); have R1 := Lib.hid hr1
  rw [HLl.out] at R1
  clear hr1 hb1 T0 B0
  rw [HLl.out]
  go_wp2_with fail
  refine (HP1.out A1 c1 w1 R1.out).mono ?_
  rintro e w' ⟨rfl, rfl⟩
  clear R1
  by_cases he1 : e1 = 0
  · subst he1
    have hx := HX2.out
    go_wp2_with (refine conv_s rfl 9 78 (.tmp 26) rfl Try.underlying9 Try.underlying78 Try.underlying5 (l.drop a) rfl ?_)
    intro A2 c2 w2 hr2 _ hb2
    rw [HLl.out] at hr2 ⊢
    have HT2 := Lib.hid (HT.out.after hb2); have HB2 := Lib.hid (HB.out.trans (hb2.mono HB.out.size)); have R2 := Lib.hid hr2
    clear hr2 hb2 HT HB hx
    go_wp2_with fail
    refine (HP2.out A2 c2 w2 R2.out).mono ?_
    rintro e w' ⟨rfl, rfl⟩
    clear R2
    by_cases he2 : e2 = 0
    · subst he2
      by_cases hrg : f ≤ 1073741824 ∧ 1 ≤ n ∧ n ≤ 65536
      · obtain ⟨hr1, hr2, hr3⟩ := hrg
        go_wp2_with fail
        refine (rnew_blk f n w2 hr1 hr2 hr3).mono ?_
        rintro e w3 ⟨rfl, hk3, hb3⟩
        have hlt3 : W.heap.size < w2.heap.size := HT2.out.lt
        have HT3 := Lib.hid (HT2.out.after hb3); have HB3 := Lib.hid (HB2.out.trans (hb3.mono HB2.out.size)); have K3 := Lib.hid hk3
        have HLT := Lib.hid hlt3
        obtain ⟨gs, hgs⟩ : ∃ g, w2.heap.size + 1 = g := ⟨_, rfl⟩
        rw [hgs] at K3 ⊢
        have HGs : Hid (W.heap.size + 1 < gs) := Lib.hid (by omega)
        clear hk3 hb3 HT2 HB2 hlt3 hgs HLT
        unfold RM
        have hx := HX3.out
        have hsum : (a : Int) + (b : Int) = (ab : Nat) := by have := HAb.out; omega
        go_wp2_with (refine conv_s rfl 9 78 (.tmp 49) rfl Try.underlying9 Try.underlying78 Try.underlying5 (l.drop ab) rfl ?_)
        intro A4 c4 w4 hr4 _ hb4
        have h0 := (Below.refl w3.heap.size w3).alloc (Nat.le_refl _) (.cells #[.int .i64 (f : Nat), .slice (some ⟨gs, 0, none⟩) n n] 28)
        have hb4' : Below w3.heap.size w3 w4 := h0.trans (hb4.mono (by simp))
        have hT9 : Blk w4 w3.heap.size 28 #[.int .i64 (f : Nat), .slice (some ⟨gs, 0, none⟩) n n] := (Blk.new w3 28 #[.int .i64 (f : Nat), .slice (some ⟨gs, 0, none⟩) n n]).below hb4 (by simp)
        rw [HLl.out] at hr4 ⊢
        have hgl : gs < w3.heap.size := K3.out.lt
        have HT := Lib.hid (HT3.out.after hb4'); have HB := Lib.hid (HB3.out.trans (hb4'.mono HB3.out.size)); have K4 := Lib.hid (K3.out.after hb4'); have R4 := Lib.hid hr4; have T9 := Lib.hid hT9
        obtain ⟨g9, hg9⟩ : ∃ g, w3.heap.size = g := ⟨_, rfl⟩
        rw [hg9] at T9 hgl ⊢
        have HGl := Lib.hid hgl
        clear h0 hr4 hb4 hb4' hT9 hg9 hgl hx HT3 HB3 K3
        go_wp2_with fail
        refine (HP3.out A4 c4 w4 R4.out).mono ?_
        rintro e w' ⟨rfl, rfl⟩
        clear R4
        obtain ⟨p, hp⟩ : ∃ x, ab + c = x := ⟨_, rfl⟩
        have hpL : p ≤ L := by omega
        have hpi : (ab : Int) + (c : Int) = (p : Nat) := by omega
        have HPp := Lib.hid hp
        obtain ⟨m8, hm8⟩ : ∃ x, (n + 7) / 8 = x := ⟨_, rfl⟩
        have hm8i : ((n : Int) + 7) / 8 = (m8 : Nat) := by omega
        have HM8 := Lib.hid hm8
        have hm8b : m8 ≤ 8192 := by omega
        clear hp hm8
        by_cases he3 : e3 = 0
        · subst he3
          by_cases hlen : L = p + m8
          · have e0 : ((L : Int) != (p : Int) + (m8 : Int)) = false := by simp; omega
            go_wp2
            clear e0
            have HLen := Lib.hid hlen
            clear hlen
            go_loopw [12] (fun v wr => ∃ k : Nat, k ≤ n ∧ v = .int .i64 (k : Nat) ∧ Blk wr gs 3 (IV (RL (stP p n l k))) ∧ Keep (fun i => i = gs) w4 wr) (fun v _ => n - (intOf v).toNat)
            case atStart => exact ⟨0, by omega, rfl, by simpa [stP, stR] using K4.out, Keep.refl _ _⟩
            case round =>
              clear K4
              obtain ⟨k, hk, rfl, hbk, hkp⟩ := hrel
              by_cases hlt : k < n
              · have hsu := stP_succ p n l k hlt
                have hge := stP_get p n l k hlt
                have hsl := stP_len p n l k hk
                obtain ⟨j, hj⟩ : ∃ j, j = k / 8 := ⟨_, rfl⟩
                obtain ⟨r, hr⟩ : ∃ r, r = k % 8 := ⟨_, rfl⟩
                have hL2 := HLen.out; have hM8 := HM8.out
                obtain ⟨jj, hjj⟩ : ∃ x, p + j = x := ⟨_, rfl⟩
                have hjL : jj < L := by omega
                have hjq : jj < (str l).size := by rw [hsz]; exact hjL
                have hgt := str_get l jj hjq
                have hbit : bitB (l.drop p) k = (bits .and .u8 (((str l)[jj]'hjq).toNat / 2 ^ r) 1 == 1) := by
                  unfold bitB
                  rw [← hj, ← hr, hgt, ← hjj]
                  congr 5
                  rw [List.getD_eq_getElem?_getD, List.getElem?_drop, ← List.getD_eq_getElem?_getD]
                have k1 : ((k : Nat) : Int) / 8 = (j : Nat) := by omega
                have k2 : ((k : Nat) : Int) % 8 = (r : Nat) := by omega
                have k3 : (p : Int) + (j : Int) = (jj : Nat) := by omega
                have hr8 : r < 8 := by omega
                have t9b := T9.out.kept hkp (by have := HGl.out; omega)
                have q0 : wr.cell? ⟨g9, 1, none⟩ = some (.slice (some ⟨gs, 0, none⟩) n n) := t9b.cell 1
                generalize stP p n l k = cur at hbk hsu hge hsl
                have HBk := Lib.hid hbk; have HKp := Lib.hid hkp
                by_cases hbt : bitB (l.drop p) k = true
                · rw [hbt] at hbit
                  rw [if_pos hbt] at hsu
                  have hb1 := hbit.symm
                  have ck : wr.cell? ⟨gs, k, none⟩ = some (.int .i64 ((cur.getD k 0).toNat : Int)) := by
                    rw [hbk.cell]
                    unfold IV RL
                    rw [List.getElem?_toArray, List.getElem?_map, List.getElem?_map, List.getD_eq_getElem?_getD, List.getElem?_eq_getElem (by omega)]
                    rfl
                  have fk := hbk.frozen k
                  have G1 := Lib.hid (show Blk (wr.setCell ⟨gs, k, none⟩ (.int .i64 1)) gs 3 (IV (RL (stP p n l (k + 1)))) by
                    rw [hsu, ← IV_set]; exact hbk.set_ k (.int .i64 1))
                  have G2 := Lib.hid (hkp.setCell (p := ⟨gs, k, none⟩) (fun _ => rfl) (.int .i64 1))
                  clear hbk hkp hsu hge hsl hj hr hjj hgt hbit hbt t9b hL2 hM8
                  go_wp2
                  go_roundw
                  case rel => exact ⟨k + 1, by omega, by go_num, G1.out, G2.out⟩
                  case measure => simp [intOf]; omega
                · have hbf : bitB (l.drop p) k = false := by simpa using hbt
                  rw [hbf] at hbit
                  rw [if_neg hbt, hge] at hsu
                  have hb1 := hbit.symm
                  rw [← hsu] at HBk
                  clear hbk hkp hsu hge hsl hj hr hjj hgt hbit hbt hbf t9b hL2 hM8 q0
                  go_wp2
                  go_roundw
                  case rel => exact ⟨k + 1, by omega, by go_num, HBk.out, HKp.out⟩
                  case measure => simp [intOf]; omega
              · obtain rfl : k = n := by omega
                have hL2 := HLen.out
                rw [stP_all] at hbk
                have hy : dR l = if encB f (stR p k l) = l then some (f, stR p k l) else none := by
                  have := HYes.out
                  rw [HLl.out, HPp.out, HM8.out] at this
                  rw [this]
                  by_cases hE : encB f (stR p k l) = l
                  · rw [if_pos ⟨⟨by first | rfl | exact True.intro, by first | rfl | exact True.intro, ⟨hr1, hr2, hr3⟩, by first | rfl | exact True.intro, hL2⟩, hE⟩, if_pos hE]
                  · rw [if_neg (fun h => hE h.2), if_neg hE]
                have hsl := stR_len p k l
                obtain ⟨st, hst⟩ : ∃ x, stR p k l = x := ⟨_, rfl⟩
                rw [hst] at hy hbk hsl
                obtain ⟨w5, rfl⟩ : ∃ w5 : World, w5 = wr := ⟨_, rfl⟩
                have hrd : Rd w5 w5.heap.size LI (some ⟨gs, 0, none⟩) st.length (RL st) := by
                  have := Rd.ofI (B := w5.heap.size) hbk hbk.lt
                  have hrl : (RL st).length = st.length := by unfold RL; rw [List.length_map]
                  rw [hrl] at this
                  exact this
                have t9b := T9.out.kept hkp (by have := HGl.out; omega)
                have q0 : w5.cell? ⟨g9, 0, none⟩ = some (.int .i64 (f : Nat)) := t9b.cell 0
                have q1 : w5.cell? ⟨g9, 1, none⟩ = some (.slice (some ⟨gs, 0, none⟩) k k) := t9b.cell 1
                have HRE := Lib.hid (rencode_any f k st (some ⟨gs, 0, none⟩) w5 hrd (by omega) (by omega))
                rw [hsl] at HRE hrd
                unfold RM at HRE
                have HTb := Lib.hid (HT.out.kept hkp (by have := HGs.out; omega)); have HBb := Lib.hid (HB.out.trans (hkp.below HB.out.size (fun i hi h => by have := HGs.out; omega)))
                have HRd := Lib.hid hrd; have HY := Lib.hid hy; have HSl := Lib.hid hsl; have T9b := Lib.hid t9b
                clear hbk hkp hlt hk hL2 hst hy hsl hrd t9b HT HB HYes HNo
                go_wp2_with fail
                refine HRE.out.mono ?_
                rintro e w6 ⟨rfl, hb6⟩
                have HT := Lib.hid (HTb.out.after hb6); have HB := Lib.hid (HBb.out.trans (hb6.mono HBb.out.size)); have HR6 := Lib.hid (HRd.out.after hb6); have T96 := Lib.hid (T9b.out.after hb6)
                clear hb6 HTb HBb HRd T9b q0 q1 HRE
                by_cases hE : encB f st = l
                · have hy2 : dR l = some (f, st) := by rw [HY.out, if_pos hE]
                  have HY2 := Lib.hid hy2
                  rw [hE]
                  clear hy2 hE HY
                  have q0 : w6.cell? ⟨g9, 0, none⟩ = some (.int .i64 (f : Nat)) := T96.out.cell 0
                  have q1 : w6.cell? ⟨g9, 1, none⟩ = some (.slice (some ⟨gs, 0, none⟩) k k) := T96.out.cell 1
                  have t0 : w6.cell? ⟨W.heap.size, 0, none⟩ = some (.int .i64 0) := HT.out.cell 0
                  have t1 : w6.cell? ⟨W.heap.size, 1, none⟩ = some (.slice none 0 0) := HT.out.cell 1
                  have y0 := HT.out.frozen 0; have y1 := HT.out.frozen 1
                  go_wp2
                  have k4 := (HT.out.set_ 0 (.int .i64 (f : Nat))).set_ 1 (.slice (some ⟨gs, 0, none⟩) k k)
                  have hb4 := (HB.out.setCell (p := ⟨W.heap.size, 0, none⟩) (Nat.le_refl _) (.int .i64 (f : Nat))).setCell (p := ⟨W.heap.size, 1, none⟩) (Nat.le_refl _) (.slice (some ⟨gs, 0, none⟩) k k)
                  have hkk : Keep (fun i => i = W.heap.size) w6 ((w6.setCell ⟨W.heap.size, 0, none⟩ (.int .i64 (f : Nat))).setCell ⟨W.heap.size, 1, none⟩ (.slice (some ⟨gs, 0, none⟩) k k)) := ((Keep.refl (fun i => i = W.heap.size) w6).setCell (p := ⟨W.heap.size, 0, none⟩) (fun _ => rfl) _).setCell (p := ⟨W.heap.size, 1, none⟩) (fun _ => rfl) _
                  clear t0 t1 y0 y1 q0 q1
                  generalize (w6.setCell ⟨W.heap.size, 0, none⟩ (.int .i64 (f : Nat))).setCell ⟨W.heap.size, 1, none⟩ (.slice (some ⟨gs, 0, none⟩) k k) = w7 at k4 hb4 hkk ⊢
                  have r0 := k4.cell 0; have r1 := k4.cell 1
                  simp at r0 r1
                  have hr7 : Rd w7 w7.heap.size LI (some ⟨gs, 0, none⟩) k (RL st) := (HR6.out.kept hkk (Nat.le_refl _) (fun _ ad had hs => by injection had with had; subst had; have := HGs.out; simp at hs; omega)).more hkk.size
                  exact bodyPost_ret (v := .tuple #[.agg #[.int .i64 (f : Nat), .slice (some ⟨gs, 0, none⟩) k k], .int .i64 0]) (by simp [results, Try.f36, go_sem, r0, r1]) rfl ⟨.inr ⟨f, st, some ⟨gs, 0, none⟩, k, HY2.out, by rw [HSl.out]; rfl, by rw [HSl.out]; exact hr7⟩, hb4⟩
                · have hnn : dR l = none := by rw [HY.out, if_neg hE]
                  have HNn := Lib.hid hnn
                  have hne : (!(str (encB f st)).toList == (str l).toList) = true := by
                    rw [str_toList, str_toList]
                    simpa using hE
                  generalize str (encB f st) = sE at hne ⊢
                  clear hnn hE HY
                  have t0 : w6.cell? ⟨W.heap.size, 0, none⟩ = some (.int .i64 0) := HT.out.cell 0
                  have t1 : w6.cell? ⟨W.heap.size, 1, none⟩ = some (.slice none 0 0) := HT.out.cell 1
                  have y0 := HT.out.frozen 0; have y1 := HT.out.frozen 1
                  go_wp2
                  have k4 := (HT.out.set_ 0 (.int .i64 0)).set_ 1 (.slice none 0 0)
                  have hb4 := (HB.out.setCell (p := ⟨W.heap.size, 0, none⟩) (Nat.le_refl _) (.int .i64 0)).setCell (p := ⟨W.heap.size, 1, none⟩) (Nat.le_refl _) (.slice none 0 0)
                  clear t0 t1 y0 y1
                  generalize (w6.setCell ⟨W.heap.size, 0, none⟩ (.int .i64 0)).setCell ⟨W.heap.size, 1, none⟩ (.slice none 0 0) = w4 at k4 hb4 ⊢
                  have r0 := k4.cell 0; have r1 := k4.cell 1
                  simp at r0 r1
                  exact bodyPost_ret (v := .tuple #[.agg #[.int .i64 0, .slice none 0 0], .int .i64 3]) (by simp [results, Try.f36, go_sem, r0, r1]) rfl ⟨.inl ⟨HNn.out, rfl⟩, hb4⟩
          · have hnn : dR l = none := HNo.out (by rintro ⟨-, -, -, -, h⟩; rw [HLl.out, HPp.out, HM8.out] at h; exact hlen h)
            have HNn := Lib.hid hnn
            have e0 : ((L : Int) != (p : Int) + (m8 : Int)) = true := by simp; omega
            clear hnn hlen
            have t0 : w4.cell? ⟨W.heap.size, 0, none⟩ = some (.int .i64 0) := HT.out.cell 0
            have t1 : w4.cell? ⟨W.heap.size, 1, none⟩ = some (.slice none 0 0) := HT.out.cell 1
            have y0 := HT.out.frozen 0; have y1 := HT.out.frozen 1
            go_wp2
            have k4 := (HT.out.set_ 0 (.int .i64 0)).set_ 1 (.slice none 0 0)
            have hb4 := (HB.out.setCell (p := ⟨W.heap.size, 0, none⟩) (Nat.le_refl _) (.int .i64 0)).setCell (p := ⟨W.heap.size, 1, none⟩) (Nat.le_refl _) (.slice none 0 0)
            clear t0 t1 y0 y1
            generalize (w4.setCell ⟨W.heap.size, 0, none⟩ (.int .i64 0)).setCell ⟨W.heap.size, 1, none⟩ (.slice none 0 0) = w4 at k4 hb4 ⊢
            have r0 := k4.cell 0; have r1 := k4.cell 1
            simp at r0 r1
            exact bodyPost_ret (v := .tuple #[.agg #[.int .i64 0, .slice none 0 0], .int .i64 3]) (by simp [results, Try.f36, go_sem, r0, r1]) rfl ⟨.inl ⟨HNn.out, rfl⟩, hb4⟩
        · have hnn : dR l = none := HNo.out (by rintro ⟨-, -, -, h, -⟩; exact he3 h)
          have HNn := Lib.hid hnn
          have e0 : ((e3 : Int) != 0) = true := by simp; omega
          clear hnn he3
          have t0 : w4.cell? ⟨W.heap.size, 0, none⟩ = some (.int .i64 0) := HT.out.cell 0
          have t1 : w4.cell? ⟨W.heap.size, 1, none⟩ = some (.slice none 0 0) := HT.out.cell 1
          have y0 := HT.out.frozen 0; have y1 := HT.out.frozen 1
          go_wp2
          have k4 := (HT.out.set_ 0 (.int .i64 0)).set_ 1 (.slice none 0 0)
          have hb4 := (HB.out.setCell (p := ⟨W.heap.size, 0, none⟩) (Nat.le_refl _) (.int .i64 0)).setCell (p := ⟨W.heap.size, 1, none⟩) (Nat.le_refl _) (.slice none 0 0)
          clear t0 t1 y0 y1
          generalize (w4.setCell ⟨W.heap.size, 0, none⟩ (.int .i64 0)).setCell ⟨W.heap.size, 1, none⟩ (.slice none 0 0) = w4 at k4 hb4 ⊢
          have r0 := k4.cell 0; have r1 := k4.cell 1
          simp at r0 r1
          exact bodyPost_ret (v := .tuple #[.agg #[.int .i64 0, .slice none 0 0], .int .i64 3]) (by simp [results, Try.f36, go_sem, r0, r1]) rfl ⟨.inl ⟨HNn.out, rfl⟩, hb4⟩
      · have hnn : dR l = none := HNo.out (by rintro ⟨-, -, h, -⟩; exact hrg h)
        have HNn := Lib.hid hnn
        have hrg' : (f : Int) < 0 ∨ 1073741824 < (f : Int) ∨ (n : Int) < 1 ∨ 65536 < (n : Int) := by omega
        have HC := Lib.hid (rnew_bad f n w2 hrg')
        clear hnn hrg hrg'
        go_wp2_with fail
        refine HC.out.mono ?_
        rintro e w3 ⟨rfl, hb3⟩
        have hb4 := hb3.alloc hb3.size (.cells #[.int .i64 0, .slice none 0 0] 28)
        have HT := Lib.hid (HT2.out.after hb4); have HB := Lib.hid (HB2.out.trans (hb4.mono HB2.out.size))
        clear hb3 hb4 HT2 HB2 HC
        have hw : (w3.alloc (.cells #[.int .i64 0, .slice none 0 0] 28)) = (w3.alloc (.cells #[.int .i64 0, .slice none 0 0] 28)) := rfl
        have t0 : (w3.alloc (.cells #[.int .i64 0, .slice none 0 0] 28)).cell? ⟨W.heap.size, 0, none⟩ = some (.int .i64 0) := HT.out.cell 0
        have t1 : (w3.alloc (.cells #[.int .i64 0, .slice none 0 0] 28)).cell? ⟨W.heap.size, 1, none⟩ = some (.slice none 0 0) := HT.out.cell 1
        have y0 := HT.out.frozen 0; have y1 := HT.out.frozen 1
        go_wp2
        have k4 := (HT.out.set_ 0 (.int .i64 0)).set_ 1 (.slice none 0 0)
        have hb4 := (HB.out.setCell (p := ⟨W.heap.size, 0, none⟩) (Nat.le_refl _) (.int .i64 0)).setCell (p := ⟨W.heap.size, 1, none⟩) (Nat.le_refl _) (.slice none 0 0)
        clear t0 t1 y0 y1
        generalize ((w3.alloc (.cells #[.int .i64 0, .slice none 0 0] 28)).setCell ⟨W.heap.size, 0, none⟩ (.int .i64 0)).setCell ⟨W.heap.size, 1, none⟩ (.slice none 0 0) = w4 at k4 hb4 ⊢
        have r0 := k4.cell 0; have r1 := k4.cell 1
        simp at r0 r1
        exact bodyPost_ret (v := .tuple #[.agg #[.int .i64 0, .slice none 0 0], .int .i64 3]) (by simp [results, Try.f36, go_sem, r0, r1]) rfl ⟨.inl ⟨HNn.out, rfl⟩, hb4⟩
    · have hnn : dR l = none := HNo.out (by rintro ⟨-, h, -⟩; exact he2 h)
      have HNn := Lib.hid hnn
      have e0 : ((e2 : Int) != 0) = true := by simp; omega
      have HT := Lib.hid HT2.out; have HB := Lib.hid HB2.out
      clear hnn he2 HT2 HB2
      have t0 : w2.cell? ⟨W.heap.size, 0, none⟩ = some (.int .i64 0) := HT.out.cell 0
      have t1 : w2.cell? ⟨W.heap.size, 1, none⟩ = some (.slice none 0 0) := HT.out.cell 1
      have y0 := HT.out.frozen 0; have y1 := HT.out.frozen 1
      go_wp2
      have k4 := (HT.out.set_ 0 (.int .i64 0)).set_ 1 (.slice none 0 0)
      have hb4 := (HB.out.setCell (p := ⟨W.heap.size, 0, none⟩) (Nat.le_refl _) (.int .i64 0)).setCell (p := ⟨W.heap.size, 1, none⟩) (Nat.le_refl _) (.slice none 0 0)
      clear t0 t1 y0 y1
      generalize (w2.setCell ⟨W.heap.size, 0, none⟩ (.int .i64 0)).setCell ⟨W.heap.size, 1, none⟩ (.slice none 0 0) = w4 at k4 hb4 ⊢
      have r0 := k4.cell 0; have r1 := k4.cell 1
      simp at r0 r1
      exact bodyPost_ret (v := .tuple #[.agg #[.int .i64 0, .slice none 0 0], .int .i64 3]) (by simp [results, Try.f36, go_sem, r0, r1]) rfl ⟨.inl ⟨HNn.out, rfl⟩, hb4⟩
  · have hnn : dR l = none := HNo.out (by rintro ⟨h, -⟩; exact he1 h)
    have HNn := Lib.hid hnn
    have e0 : ((e1 : Int) != 0) = true := by simp; omega
    clear hnn he1
    have t0 : w1.cell? ⟨W.heap.size, 0, none⟩ = some (.int .i64 0) := HT.out.cell 0
    have t1 : w1.cell? ⟨W.heap.size, 1, none⟩ = some (.slice none 0 0) := HT.out.cell 1
    have y0 := HT.out.frozen 0; have y1 := HT.out.frozen 1
    go_wp2
    have k4 := (HT.out.set_ 0 (.int .i64 0)).set_ 1 (.slice none 0 0)
    have hb4 := (HB.out.setCell (p := ⟨W.heap.size, 0, none⟩) (Nat.le_refl _) (.int .i64 0)).setCell (p := ⟨W.heap.size, 1, none⟩) (Nat.le_refl _) (.slice none 0 0)
    clear t0 t1 y0 y1
    generalize (w1.setCell ⟨W.heap.size, 0, none⟩ (.int .i64 0)).setCell ⟨W.heap.size, 1, none⟩ (.slice none 0 0) = w4 at k4 hb4 ⊢
    have r0 := k4.cell 0; have r1 := k4.cell 1
    simp at r0 r1
    exact bodyPost_ret (v := .tuple #[.agg #[.int .i64 0, .slice none 0 0], .int .i64 3]) (by simp [results, Try.f36, go_sem, r0, r1]) rfl ⟨.inl ⟨HNn.out, rfl⟩, hb4⟩
end Go.Proofs.Ytbeemkamjachpaa
