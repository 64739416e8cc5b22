/- The reference's Commit and Abort, by contracts. -/
import Derived.Test.YtbeemkamjachpaaB19
namespace Go.Proofs.Ytbeemkamjachpaa
open Go.RowKit
set_option maxRecDepth 100000
/-- What change does to a state. -/
def ch (a b x : UInt8) : UInt8 := if x = 2 then a else if x = 3 then b else x
theorem ch_cases (a b x : UInt8) : (x.toNat = 2 ∧ ch a b x = a) ∨ (x.toNat ≠ 2 ∧ x.toNat = 3 ∧ ch a b x = b) ∨ (x.toNat ≠ 2 ∧ x.toNat ≠ 3 ∧ ch a b x = x) := by
  unfold ch
  by_cases h2 : x = 2
  · subst h2; exact .inl ⟨rfl, rfl⟩
  · have h2' : x.toNat ≠ 2 := fun h => h2 (UInt8.toNat_inj.1 (by simpa using h))
    rw [if_neg h2]
    by_cases h3 : x = 3
    · subst h3; exact .inr (.inl ⟨h2', rfl, rfl⟩)
    · have h3' : x.toNat ≠ 3 := fun h => h3 (UInt8.toNat_inj.1 (by simpa using h))
      rw [if_neg h3]
      exact .inr (.inr ⟨h2', h3', rfl⟩)
theorem take_map_succ (g : UInt8 → UInt8) (l : List UInt8) (k : Nat) (hk : k < l.length) : RL ((l.take (k + 1)).map g) = RL ((l.take k).map g) ++ [((g (l.getD k 0)).toNat : Int)] := by
  rw [List.take_succ_eq_append_getElem hk, List.map_append, RL, RL, List.map_append, List.getD_eq_getElem?_getD, List.getElem?_eq_getElem hk]
  rfl
set_option maxHeartbeats 2000000 in
theorem rchange_any (f c : Nat) (l : List UInt8) (A : Option Addr) (a b : UInt8) (W : World) (hr : Rd W W.heap.size LI A l.length (RL l)) (hn : l.length ≤ 65536) : Calls Try.prog 63 #[RM f A l.length c, .int .i64 (a.toNat : Int), .int .i64 (b.toNat : Int)] W fun e w' =>
    ∃ v, e = .returned v ∧ RNext W w' A f (l.map (ch a b)) v ∧ Below W.heap.size W w' := by
  have k0 := ((Blk.new W 28 #[.int .i64 (f : Nat), .slice A l.length c]).alloc (.cells #[.int .i64 0, .slice none 0 0] 28)).alloc (.cells #[.int .i64 (f : Nat), .slice none 0 0] 28)
  have k1 := (Blk.new (W.alloc (.cells #[.int .i64 (f : Nat), .slice A l.length c] 28)) 28 #[.int .i64 0, .slice none 0 0]).alloc (.cells #[.int .i64 (f : Nat), .slice none 0 0] 28)
  have k2 := Blk.new ((W.alloc (.cells #[.int .i64 (f : Nat), .slice A l.length c] 28)).alloc (.cells #[.int .i64 0, .slice none 0 0] 28)) 28 #[.int .i64 (f : Nat), .slice none 0 0]
  simp only [World.size_alloc] at k1 k2
  have hb2 : Below W.heap.size W (((W.alloc (.cells #[.int .i64 (f : Nat), .slice A l.length c] 28)).alloc (.cells #[.int .i64 0, .slice none 0 0] 28)).alloc (.cells #[.int .i64 (f : Nat), .slice none 0 0] 28)) := (((Below.refl _ W).alloc (Nat.le_refl _) _).alloc (by simp) _).alloc (by simp; omega) _
  have hsz : (((W.alloc (.cells #[.int .i64 (f : Nat), .slice A l.length c] 28)).alloc (.cells #[.int .i64 0, .slice none 0 0] 28)).alloc (.cells #[.int .i64 (f : Nat), .slice none 0 0] 28)).heap.size = W.heap.size + 3 := by simp
  have HR := Lib.hid hr; have K0 := Lib.hid k0; have K1 := Lib.hid k1; have K2 := Lib.hid k2; have B2 := Lib.hid hb2; have HZ := Lib.hid hsz
  unfold RM
  clear hr k0 k1 k2 hb2 hsz
  go_enter Try.func63, Try.ntmps63
  go_wp2
  generalize ((W.alloc (.cells #[.int .i64 (f : Nat), .slice A l.length c] 28)).alloc (.cells #[.int .i64 0, .slice none 0 0] 28)).alloc (.cells #[.int .i64 (f : Nat), .slice none 0 0] 28) = W1 at K0 K1 K2 B2 HZ ⊢
  go_loopw [8] (fun i wr => ∃ (k : Nat) (v : Value), k ≤ l.length ∧ i = .int .i64 (k : Nat) ∧ Own wr (W.heap.size + 3) 3 LI v (RL ((l.take k).map (ch a b))) ∧ Blk wr W.heap.size 28 #[.int .i64 (f : Nat), .slice A l.length c] ∧ Blk wr (W.heap.size + 1) 28 #[.int .i64 0, .slice none 0 0] ∧ Blk wr (W.heap.size + 1 + 1) 28 #[.int .i64 (f : Nat), v] ∧ Below W.heap.size W wr ∧ W.heap.size + 3 ≤ wr.heap.size) (fun i _ => l.length - (intOf i).toNat)
  case atStart => exact ⟨0, _, by omega, rfl, Own.nil_, K0.out, K1.out, K2.out, B2.out, by have := HZ.out; omega⟩
  case round =>
    obtain ⟨k, v, hk, rfl, hown, h0, h1, h2, hb, hz⟩ := hrel
    have c0 : wr.cell? ⟨W.heap.size, 0, none⟩ = some (.int .i64 (f : Nat)) := h0.cell 0
    have c1 : wr.cell? ⟨W.heap.size, 1, none⟩ = some (.slice A l.length c) := h0.cell 1
    obtain ⟨vA, vn, vc, rfl⟩ := hown.sl
    have hvn := hown.cap.1
    have hvl : vn ≤ k := by rw [← hvn, RL_len, List.length_map]; simp; omega
    have g0 : wr.cell? ⟨W.heap.size + 1 + 1, 0, none⟩ = some (.int .i64 (f : Nat)) := h2.cell 0
    have g1 : wr.cell? ⟨W.heap.size + 1 + 1, 1, none⟩ = some (.slice vA vn vc) := h2.cell 1
    have HO := Lib.hid hown; have H0 := Lib.hid h0; have H1 := Lib.hid h1; have H2 := Lib.hid h2; have HB := Lib.hid hb
    by_cases hlt : k < l.length
    · obtain ⟨ba, o, y, rfl, -, hy, hc⟩ := (HR.out.below hb).nth hlt
      have hyq := RL_get l k y hlt hy
      have d0 : wr.cell? ⟨ba, o + k, none⟩ = some (.int .i64 y) := by
        have := hc 0 _ rfl
        simpa [LI] using this
      have hts := take_map_succ (ch a b) l k hlt
      have hcs := ch_cases a b (l.getD k 0)
      have hq4 : (l.getD k 0).toNat < 256 := (l.getD k 0).toNat_lt
      have hz4 : (ch a b (l.getD k 0)).toNat < 256 := (ch a b (l.getD k 0)).toNat_lt
      rw [hyq] at d0
      generalize ch a b (l.getD k 0) = z at hts hcs hz4
      generalize l.getD k 0 = x at d0 hcs hq4
      have HTS := Lib.hid hts
      generalize RL ((l.take k).map (ch a b)) = cur at HO HTS hvn
      clear hy hc hyq hown h0 h1 h2 hb hts
      have hcs' : ((x.toNat : Int) == 2) = true ∧ z = a ∨ ((x.toNat : Int) == 2) = false ∧ ((x.toNat : Int) == 3) = true ∧ z = b ∨ ((x.toNat : Int) == 2) = false ∧ ((x.toNat : Int) == 3) = false ∧ z = x := by
        rcases hcs with ⟨p, q⟩ | ⟨p, q, r⟩ | ⟨p, q, r⟩
        · exact .inl ⟨by simp; omega, q⟩
        · exact .inr (.inl ⟨by simp; omega, by simp; omega, r⟩)
        · exact .inr (.inr ⟨by simp; omega, by simp; omega, r⟩)
      clear hcs
      have g1z := H2.out.frozen 1
      rcases hcs' with ⟨p, rfl⟩ | ⟨p, q, rfl⟩ | ⟨p, q, rfl⟩
      all_goals
        go_wp2_with (at_builtin; refine ap_one _ rfl _ _ ElI rfl (W.heap.size + 3) _ cur rfl (HO.out.alloc _) ⟨wr.heap.size, 0, none⟩ 1 ((z.toNat : Int)) rfl ?c1 ?c2 ?c3 ?c4 ?_)
        case c1 => exact new_at rfl
        case c2 => omega
        case c3 => omega
        case c4 => simp; omega
        intro A' c' w' hown' hg _ _ _
        have hne := fun (B : Nat) (cs : Array Value) (hB : Blk wr B 28 cs) => hB.own_ne HO.out (by decide)
        have h0' := (H0.out.alloc (.cells #[.int .i64 (z.toNat : Int)] 3)).grown hg (hne _ _ H0.out)
        have h1' := (H1.out.alloc (.cells #[.int .i64 (z.toNat : Int)] 3)).grown hg (hne _ _ H1.out)
        have h2' := (H2.out.alloc (.cells #[.int .i64 (z.toNat : Int)] 3)).grown hg (hne _ _ H2.out)
        have hb' : Below W.heap.size W w' := (HO.out.alloc _).belowGrown (HB.out.alloc HB.out.size _) (by have := HB.out.size; simp; omega) (by omega) hg
        have hz' : W.heap.size + 3 ≤ w'.heap.size := by have := hg.size; simp at this; omega
        have g0' : w'.cell? ⟨W.heap.size + 1 + 1, 0, none⟩ = some (.int .i64 (f : Nat)) := h2'.cell 0
        have g1' : w'.cell? ⟨W.heap.size + 1 + 1, 1, none⟩ = some (.slice vA vn vc) := h2'.cell 1
        have gz' := h2'.frozen 1
        rw [← HTS.out] at hown'
        have F0 := Lib.hid (h0'.far (p := ⟨W.heap.size + 1 + 1, 1, none⟩) (by show W.heap.size ≠ W.heap.size + 1 + 1; omega) (.slice A' (vn + 1) c'))
        have F1 := Lib.hid (h1'.far (p := ⟨W.heap.size + 1 + 1, 1, none⟩) (by show W.heap.size + 1 ≠ W.heap.size + 1 + 1; omega) (.slice A' (vn + 1) c'))
        have F2 := Lib.hid (h2'.set_ 1 (.slice A' (vn + 1) c'))
        have FB := Lib.hid (hb'.setCell (p := ⟨W.heap.size + 1 + 1, 1, none⟩) (by show W.heap.size ≤ W.heap.size + 1 + 1; omega) (.slice A' (vn + 1) c'))
        have FO := Lib.hid (hown'.setCell (a := ⟨W.heap.size + 1 + 1, 1, none⟩) (by show W.heap.size + 1 + 1 < W.heap.size + 3; omega) (.slice A' (vn + 1) c'))
        clear hown' hg h0' h1' h2' hb' hne HO H0 H1 H2 HB g0 g1 g1z c0 c1 d0
        go_wp2
        go_roundw
        case rel => exact ⟨k + 1, _, by omega, by go_num, FO.out, F0.out, F1.out, F2.out, FB.out, by simpa [World.setCell] using hz'⟩
        case measure => simp [intOf]; omega
    · obtain rfl : k = l.length := by omega
      rw [List.take_length] at HO hvn
      have e0 : wr.cell? ⟨W.heap.size + 1, 0, none⟩ = some (.int .i64 0) := h1.cell 0
      have e1 : wr.cell? ⟨W.heap.size + 1, 1, none⟩ = some (.slice none 0 0) := h1.cell 1
      have y0 := h1.frozen 0; have y1 := h1.frozen 1
      have hvn2 : vn = l.length := by rw [← hvn, RL_len, List.length_map]
      clear hown h0 h1 h2 hb hvn
      subst hvn2
      go_wp2
      have hB4 := (HB.out.setCell (p := ⟨W.heap.size + 1, 0, none⟩) (by show W.heap.size ≤ W.heap.size + 1; omega) (.int .i64 (f : Nat))).setCell (p := ⟨W.heap.size + 1, 1, none⟩) (by show W.heap.size ≤ W.heap.size + 1; omega) (.slice vA l.length vc)
      have hK4 := (H1.out.set_ 0 (.int .i64 (f : Nat))).set_ 1 (.slice vA l.length vc)
      have hO4 := (HO.out.setCell (a := ⟨W.heap.size + 1, 0, none⟩) (by show W.heap.size + 1 < W.heap.size + 3; omega) (.int .i64 (f : Nat))).setCell (a := ⟨W.heap.size + 1, 1, none⟩) (by show W.heap.size + 1 < W.heap.size + 3; omega) (.slice vA l.length vc)
      clear e0 e1 g0 g1 c0 c1
      generalize (wr.setCell ⟨W.heap.size + 1, 0, none⟩ (.int .i64 (f : Nat))).setCell ⟨W.heap.size + 1, 1, none⟩ (.slice vA l.length vc) = w4 at hB4 hK4 hO4 ⊢
      have r0 := hK4.cell 0; have r1 := hK4.cell 1
      simp at r0 r1
      refine bodyPost_ret (v := .agg #[.int .i64 (f : Nat), .slice vA l.length vc]) (by simp [results, Try.f63, go_sem, r0, r1]) rfl ?_
      refine ⟨_, rfl, ⟨vA, vc, by rw [List.length_map]; rfl, by rw [List.length_map]; exact hO4.rd, .inr fun ad had => ?_⟩, hB4⟩
      have := hO4.from_ _ (by rw [had]; rfl)
      omega
theorem ch_commit (l : List UInt8) (h : small l) : l.map (ch 1 0) = l.map (nx [0, 1, 1, 0]) := by
  apply List.map_congr_left
  intro x hx
  have h4 := h x hx
  have : x = 0 ∨ x = 1 ∨ x = 2 ∨ x = 3 := by
    have : x.toNat = 0 ∨ x.toNat = 1 ∨ x.toNat = 2 ∨ x.toNat = 3 := by omega
    rcases this with h | h | h | h
    · exact .inl (UInt8.toNat_inj.1 h)
    · exact .inr (.inl (UInt8.toNat_inj.1 h))
    · exact .inr (.inr (.inl (UInt8.toNat_inj.1 h)))
    · exact .inr (.inr (.inr (UInt8.toNat_inj.1 h)))
  rcases this with rfl | rfl | rfl | rfl <;> decide
theorem ch_abort (l : List UInt8) (h : small l) : l.map (ch 0 1) = l.map (nx [0, 1, 0, 1]) := by
  apply List.map_congr_left
  intro x hx
  have h4 := h x hx
  have : x = 0 ∨ x = 1 ∨ x = 2 ∨ x = 3 := by
    have : x.toNat = 0 ∨ x.toNat = 1 ∨ x.toNat = 2 ∨ x.toNat = 3 := by omega
    rcases this with h | h | h | h
    · exact .inl (UInt8.toNat_inj.1 h)
    · exact .inr (.inl (UInt8.toNat_inj.1 h))
    · exact .inr (.inr (.inl (UInt8.toNat_inj.1 h)))
    · exact .inr (.inr (.inr (UInt8.toNat_inj.1 h)))
  rcases this with rfl | rfl | rfl | rfl <;> decide
end Go.Proofs.Ytbeemkamjachpaa
