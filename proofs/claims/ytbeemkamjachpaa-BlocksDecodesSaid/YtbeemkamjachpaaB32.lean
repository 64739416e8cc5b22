/- The reference's Encode, by a contract. -/
import Derived.Test.YtbeemkamjachpaaB31
namespace Go.Proofs.Ytbeemkamjachpaa
open Go.RowKit
set_option maxRecDepth 100000
set_option maxHeartbeats 40000000 in
theorem rencode_any (f c : Nat) (l : List UInt8) (A : Option Addr) (W : World) (hr : Rd W W.heap.size LI A l.length (RL l)) (hf : f ≤ 1073741824) (hn : l.length ≤ 65536) : Calls Try.prog 37 #[RM f A l.length c] W fun e w' =>
    e = .returned (.string (str (encB f l))) ∧ Below W.heap.size W w' := by
  have hb0 := (Below.refl W.heap.size W).alloc (Nat.le_refl _) (.cells #[.int .i64 (f : Nat), .slice A l.length c] 28)
  have K0 := Lib.hid (Blk.new W 28 #[.int .i64 (f : Nat), .slice A l.length c]); have R0 := Lib.hid (hr.after hb0); have B0 := Lib.hid hb0
  unfold RM
  clear hr hb0
  go_enter Try.func37, Try.ntmps37
  go_wp2
  generalize W.alloc (.cells #[.int .i64 (f : Nat), .slice A l.length c] 28) = W1 at K0 R0 B0 ⊢
  have HWW := Lib.hid B0.out.size
  have hNf : ∀ W', Below W1.heap.size W1 W' → Calls Try.prog 61 #[.int .u64 (f : Nat)] W' fun e w' => ∃ A m c, e = .returned (.slice A m c) ∧ Own w' W'.heap.size 5 L8 (.slice A m c) (nat f) ∧ Below W'.heap.size W' w' := fun W' _ => naturalR_any f (by omega) W'
  have hNn : ∀ W', Below W1.heap.size W1 W' → Calls Try.prog 61 #[.int .u64 (l.length : Nat)] W' fun e w' => ∃ A m c, e = .returned (.slice A m c) ∧ Own w' W'.heap.size 5 L8 (.slice A m c) (nat l.length) ∧ Below W'.heap.size W' w' := fun W' _ => naturalR_any l.length (by omega) W'
  have HNf := Lib.hid hNf; have HNn := Lib.hid hNn
  have hl1 := (nat_len f).2; have hl2 := (nat_len l.length).2
  have k0 : Below W1.heap.size W1 W1.drew := (Below.refl _ _).drew
  have hc0 : ∀ W', Below W1.heap.size W1 W' → W'.cell? ⟨W.heap.size, 0, none⟩ = some (.int .i64 (f : Nat)) := fun W' h => (K0.out.after h).cell 0
  have hc1 : ∀ W', Below W1.heap.size W1 W' → W'.cell? ⟨W.heap.size, 1, none⟩ = some (.slice A l.length c) := fun W' h => (K0.out.after h).cell 1
  have hwf : IntKind.u64.wrap ((f : Nat) : Int) = (f : Nat) := by rw [IntKind.wrap_u64]; omega
  have hwl : IntKind.u64.wrap ((l.length : Nat) : Int) = (l.length : Nat) := by rw [IntKind.wrap_u64]; omega
  clear hNf hNn
  go_cut [3] (fun v3 wx => ∃ A3 m3 c3, v3 = .slice A3 m3 c3 ∧ Own wx W1.heap.size 5 L8 (.slice A3 m3 c3) (nat f ++ nat l.length) ∧ Below W1.heap.size W1 wx)
  case first =>
    go_region_held3 (fun W' => Below W1.heap.size W1 W')
      (first
        | assumption
        | exact k0
        | exact hbP
        | exact bl_tr (by assumption) hbM
        | exact bl_tr (by assumption) hbL)
      (first
        | (go_at_call 61; (with_reducible refine (HNf.out _ (by assumption)).mono ?_); rintro e wM ⟨Am, nm, cm, rfl, hownM, hbM⟩)
        | (go_at_call 61; (with_reducible refine (HNn.out _ (by assumption)).mono ?_); rintro e wL ⟨Al, nl, cl, rfl, hownL, hbL⟩)
        | (refine step_ap _ (by rfl) _ _ El8 (by rfl) W1.heap.size (.slice Am nm cm) (nat f) (by rfl) (by first | exact hownM.mono (by simp) | exact (hownM.after hbL).mono (by simp)) _ Al nl cl (nat l.length) (by rfl) (by first | exact hownL.rd | exact (hownL.after hbM).rd) (by have := hownL.cap.1; omega) (by have := hownL.cap.1; omega) (Below.size (by assumption)) ?_; intro Ap cp wP hownP hgP _ _ _; have hbP : Below W1.heap.size W1 wP := Below.grown (by assumption) hgP (Below.size (by assumption)) (fun k hk => by have := hownM.from_ k hk; simp at this; omega)))
    all_goals
      go_wp2
      go_meet
      exact ⟨Ap, _, cp, rfl, hownP, hbP⟩
  case rest =>
    obtain ⟨A3, m3, c3, rfl, hown, hb⟩ := hcut
    obtain ⟨m, hm8⟩ : ∃ m, m = (l.length + 7) / 8 := ⟨_, rfl⟩
    have hq1 : ((l.length : Int) + 7) / 8 = (m : Nat) := by omega
    have hmk := make_any wc m (by omega)
    have HW1 := Lib.hid hb.size
    have HO := Lib.hid hown; have HB := Lib.hid (B0.out.trans (hb.mono B0.out.size)); have HK := Lib.hid (K0.out.after hb); have HR := Lib.hid (R0.out.after hb); have HM8 := Lib.hid hm8
    have c0 : wc.cell? ⟨W.heap.size, 0, none⟩ = some (.int .i64 (f : Nat)) := HK.out.cell 0
    have c1 : wc.cell? ⟨W.heap.size, 1, none⟩ = some (.slice A l.length c) := HK.out.cell 1
    have hNlt : W.heap.size < wc.heap.size := HK.out.lt
    clear hown hb hm8 K0 R0 B0 HNf HNn k0 hc0 hc1 hwf hwl
    go_wp2
    clear hmk c0 c1
    have hrep : Array.replicate m (b8 0) = ((bitsL f l.length (inL f l [1, 2] 0)).map b8).toArray := by
      show _ = ((List.replicate ((l.length + 7) / 8) 0).map b8).toArray
      rw [HM8.out, List.map_replicate]
      simp
    have hkp := Blk.new wc 5 (Array.replicate m (b8 0))
    have hbp := (Below.refl wc.heap.size wc).alloc (Nat.le_refl _) (.cells (Array.replicate m (b8 0)) 5)
    generalize wc.alloc (.cells (Array.replicate m (b8 0)) 5) = w2 at hkp hbp ⊢
    rw [hrep] at hkp
    have KP := Lib.hid hkp; have BP := Lib.hid hbp; have HQ1 := Lib.hid hq1
    clear hkp hbp hrep hq1
    go_loopw [5] (fun v wr => ∃ k : Nat, k ≤ l.length ∧ v = .int .i64 (k : Nat) ∧ Blk wr wc.heap.size 5 ((bitsL f l.length (inL f l [1, 2] k)).map b8).toArray ∧ Below wc.heap.size wc wr) (fun v _ => l.length - (intOf v).toNat)
    case atStart => exact ⟨0, by omega, rfl, KP.out, BP.out⟩
    case round =>
      obtain ⟨k, hk, rfl, hkp, hbp⟩ := hrel
      clear KP BP
      have k1 := HK.out.after hbp
      have c1 : wr.cell? ⟨W.heap.size, 1, none⟩ = some (.slice A l.length c) := k1.cell 1
      have HKP := Lib.hid hkp; have HBP := Lib.hid hbp
      by_cases hlt : k < l.length
      · obtain ⟨ba, o, y, rfl, -, hy, hc⟩ := (HR.out.after hbp).nth hlt
        have hyq := RL_get l k y hlt hy
        have d0 : wr.cell? ⟨ba, o + k, none⟩ = some (.int .i64 y) := by
          have := hc 0 _ rfl
          simpa [LI] using this
        have hst := inL_succ f l [1, 2] k
        rw [← hyq] at hst
        clear hy hc hyq k1 hbp
        by_cases hm : y ∈ [(1 : Int), 2]
        · rw [if_pos hm] at hst
          have hbl := bitsL_len f l.length (inL f l [1, 2] k)
          have hbs := bitsL_snoc f l.length (inL f l [1, 2] k) k
          have hfr := bits_free f l.length l [1, 2] k k (Nat.le_refl _)
          rw [← hst] at hbs
          rw [← HM8.out] at hbl
          generalize bitsL f l.length (inL f l [1, 2] k) = bs at hkp hbl hbs HKP hfr
          have hk8 : k / 8 < m := by have := HM8.out; omega
          have e1 : wr.cell? ⟨wc.heap.size, k / 8, none⟩ = some (b8 (bs.getD (k / 8) 0)) := by
            rw [hkp.cell, List.getElem?_toArray, List.getElem?_map, List.getD_eq_getElem?_getD, List.getElem?_eq_getElem (by omega)]; rfl
          have hfz := hkp.frozen (k / 8)
          obtain ⟨x, hx⟩ : ∃ x, x = bs.getD (k / 8) 0 := ⟨_, rfl⟩
          obtain ⟨q, hq⟩ : ∃ q, q = k / 8 := ⟨_, rfl⟩
          obtain ⟨r, hr⟩ : ∃ r, r = k % 8 := ⟨_, rfl⟩
          rw [← hx] at e1
          rw [← hq] at e1 hk8 hfz
          have hq' : ((k : Nat) : Int) / 8 = (q : Nat) := by omega
          have hr' : ((k : Nat) : Int) % 8 = (r : Nat) := by omega
          have hr8 : r < 8 := by omega
          rw [← hx, ← hr] at hfr
          have hadd := add_or8 x r hr8 hfr
          have hset : setBit bs k = bs.set q (x ||| UInt8.ofNat (2 ^ r)) := by rw [hq, hr, hx]; rfl
          generalize x ||| UInt8.ofNat (2 ^ r) = z at hset hadd
          rw [hset] at hbs
          have g1 := (hkp.set_ q (b8 z)).drew
          rw [List.setIfInBounds_toArray, ← List.map_set, ← hbs] at g1
          have G1 := Lib.hid g1
          have GB := Lib.hid (show Below wc.heap.size wc (wr.setCell ⟨wc.heap.size, q, none⟩ (b8 z)).drew from let h := HBP.out.setCell (p := ⟨wc.heap.size, q, none⟩) (by simp) (b8 z); ⟨h.os, h.tape, h.output, h.size, h.block⟩)
          simp only [show b8 z = Value.int .u8 (z.toNat : Int) from rfl] at G1 GB
          have hwq : IntKind.i64.wrap ((q : Nat) : Int) = (q : Nat) := by rw [IntKind.wrap_i64]; omega
          have hwr : IntKind.i64.wrap ((r : Nat) : Int) = (r : Nat) := by rw [IntKind.wrap_i64]; omega
          have hcases : ((y == 1) = true) ∨ ((y == 1) = false ∧ (y == 2) = true) := by
            by_cases h : y = 1
            · exact .inl (by simp [h])
            · refine .inr ⟨by simp [h], ?_⟩
              simp [h] at hm
              simp [hm]
          clear hx hq hr hbs hbl hst hm hkp hfr hset g1
          simp only [b8] at e1
          rcases hcases with e5 | ⟨e5, e6⟩
          all_goals
            go_wp2
            go_region
            go_wp2
            go_roundw
            case rel => exact ⟨k + 1, by omega, by go_num, G1.out, GB.out⟩
            case measure => simp [intOf]; omega
        · rw [if_neg hm, List.append_nil] at hst
          have e5 : (y == 1) = false := by simp at hm; simp [hm]
          have e6 : (y == 2) = false := by simp at hm; simp [hm]
          rw [← hst] at HKP
          clear hst hm hkp
          go_wp2
          go_roundw
          case rel => exact ⟨k + 1, by omega, by go_num, HKP.out, HBP.out⟩
          case measure => simp [intOf]; omega
      · obtain rfl : k = l.length := by omega
        have hbl := bitsL_len f l.length (inL f l [1, 2] l.length)
        have hE : nat f ++ nat l.length ++ (nat (bitsL f l.length (inL f l [1, 2] l.length)).length ++ bitsL f l.length (inL f l [1, 2] l.length)) = encB f l := by rw [hbl]; rfl
        rw [← HM8.out] at hbl
        generalize bitsL f l.length (inL f l [1, 2] l.length) = bs at HKP hbl hE
        have HE := Lib.hid hE; have HBL := Lib.hid hbl
        have HO1 := Lib.hid (HO.out.after HBP.out)
        have hsz3 := HBP.out.size
        have hown3 := HO.out.cap
        have hB := Lib.hid (HB.out.trans (HBP.out.mono HB.out.size))
        have hrd : Rd wr wr.heap.size L8 (some ⟨wc.heap.size, 0, none⟩) m bs := by
          have := Rd.of8 HKP.out HKP.out.lt
          rw [HBL.out] at this
          exact this
        have hcv : (convert 78 9 (.slice (some ⟨wc.heap.size, 0, none⟩) m m)).run Try.prog wr = .ok (.string (str bs)) wr := run_conv8 Try.underlying78 Try.underlying5 Try.underlying9 hrd
        have HT := Lib.hid (textR_any bs wr (by rw [hbl]; have := HM8.out; omega))
        clear hrd hbl hE hkp hbp k1
        obtain ⟨wx, rfl⟩ : ∃ wx : World, wx = wr := ⟨_, rfl⟩
        go_wp2_with fail
        refine HT.out.mono ?_
        rintro e w3 ⟨A5, n5, c5, rfl, hown5, hb5⟩
        have HO3 := Lib.hid (HO1.out.after hb5)
        have hB3 := Lib.hid (hB.out.trans (hb5.mono hB.out.size))
        have H5 := Lib.hid hown5
        have hsz5 := hb5.size
        have hlen5 := hown5.cap.1
        rw [List.length_append, HBL.out] at hlen5
        have hn5 := (nat_len m).2
        have hm8' : m ≤ 8193 := by have := HM8.out; omega
        clear hb5 hown5 c1 hcv HT HO HO1 hB HB HBP HKP HK HR
        have hm3 : (nat f ++ nat l.length).length = m3 := hown3.1
        have hm3' : m3 ≤ 20 := by rw [← hm3, List.length_append]; omega
        have hw1 : W1.heap.size ≤ w3.heap.size := Nat.le_trans HW1.out (Nat.le_trans hsz3 hsz5)
        clear HW1
        clear hm3 hown3
        go_wp2_with (at_builtin; refine ap_any _ rfl _ _ El8 rfl W1.heap.size (.slice A3 m3 c3) _ rfl HO3.out w3.heap.size A5 n5 c5 _ rfl H5.out.rd ?c3 ?c4 ?c5 ?_)
        case c3 => have := HO3.out.cap.1; omega
        case c4 => have := HO3.out.cap.1; omega
        case c5 => exact hw1
        intro A6 c6 w4 hown6 hg _ _ _
        obtain ⟨n6, hn6⟩ : ∃ n6, n6 = (nat f).length + (nat l.length).length + n5 := ⟨_, rfl⟩
        rw [← hn6] at hown6 ⊢
        have hb6 : Below W.heap.size W w4 := HO3.out.belowGrown hB3.out hB3.out.size HWW.out hg
        rw [show nat f ++ (nat l.length ++ (nat bs.length ++ bs)) = encB f l from by rw [← HE.out]; simp] at hown6
        have hcv : (convert 78 9 (.slice A6 n6 c6)).run Try.prog w4 = .ok (.string (str (encB f l))) w4 := run_conv8 Try.underlying78 Try.underlying5 Try.underlying9 hown6.rd
        have HB6 := Lib.hid hb6
        clear hn6 hown6 hb6 hg H5 HO3 hB3
        go_wp2
        go_ret
        exact ⟨rfl, HB6.out⟩
end Go.Proofs.Ytbeemkamjachpaa
