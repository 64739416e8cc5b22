/- become, Commit, Abort, by contracts. -/
import Derived.Test.YtbeemkamjachpaaB3
namespace Go.Proofs.Ytbeemkamjachpaa
open Go.RowKit
set_option maxRecDepth 100000
theorem below_drew (w : World) : Below w.heap.size w w.drew := ⟨rfl, rfl, rfl, Nat.le_refl _, fun _ _ => rfl⟩
def nx (t : List UInt8) (x : UInt8) : UInt8 := t.getD x.toNat 0
def stepL (t l : List UInt8) (k : Nat) : List UInt8 := (l.take k).map (nx t) ++ l.drop k
theorem stepL_len (t l : List UInt8) (k : Nat) : (stepL t l k).length = l.length := by simp [stepL]; omega
theorem stepL_get (t l : List UInt8) (k : Nat) (hk : k < l.length) : (stepL t l k).getD k 0 = l.getD k 0 := by
  have h1 : ((l.take k).map (nx t)).length = k := by simp; omega
  rw [List.getD_eq_getElem?_getD, stepL, List.getElem?_append_right (by omega), h1, Nat.sub_self, List.getElem?_drop, Nat.add_zero, List.getD_eq_getElem?_getD]
theorem stepL_set (t l : List UInt8) (k : Nat) (hk : k < l.length) : (stepL t l k).set k (nx t (l.getD k 0)) = stepL t l (k + 1) := by
  have h1 : ((l.take k).map (nx t)).length = k := by simp; omega
  unfold stepL
  rw [List.set_append_right _ _ (by omega), h1, Nat.sub_self, List.drop_eq_getElem_cons hk, List.set_cons_zero, List.take_succ_eq_append_getElem hk, List.map_append, List.append_assoc]
  simp [List.getD_eq_getElem?_getD, List.getElem?_eq_getElem hk]
theorem stepL_full (t l : List UInt8) : stepL t l l.length = l.map (nx t) := by simp [stepL]
def small (l : List UInt8) : Prop := ∀ x ∈ l, x.toNat < 4
set_option maxHeartbeats 1000000 in
theorem become_any (b s f : Nat) (l : List UInt8) (x0 x1 x2 x3 : UInt8) (W : World) (h : MpAt W b s f l) (hs : small l) : Calls Try.prog 48 #[.pointer (some ⟨b, 0, none⟩), .agg #[b8 x0, b8 x1, b8 x2, b8 x3]] W fun e w' =>
    e = .returned (.int .i64 0) ∧ MpAt w' b s f (l.map (nx [x0, x1, x2, x3])) ∧ Keep (fun i => i = s) W w' := by
  have hlo : Below W.heap.size W (W.alloc (.cells #[b8 x0, b8 x1, b8 x2, b8 x3] 84)) := (Below.refl _ _).alloc (Nat.le_refl _) _
  have H0 := Lib.hid (h.after hlo)
  have K0 := Lib.hid (Blk.new W 84 #[b8 x0, b8 x1, b8 x2, b8 x3])
  have HK := Lib.hid ((Keep.refl (fun i => i = s) W).after hlo)
  have HS := Lib.hid hs
  have HN := Lib.hid h.n1
  have hmap : stepL [x0, x1, x2, x3] l 0 = l := by simp [stepL]
  have HM := Lib.hid hmap
  obtain ⟨cap, hc1, hc2, hblk⟩ := (h.after hlo).blk
  have d1 : (W.alloc (.cells #[b8 x0, b8 x1, b8 x2, b8 x3] 84)).cell? ⟨b, 1, none⟩ = some (.slice (some ⟨s, 0, none⟩) l.length cap) := hblk.cell 1
  have hsW : s < W.heap.size := h.lt.2
  clear h hs hmap hlo hblk
  simp only [b8] at d1 H0 K0 HK ⊢
  go_enter Try.func48, Try.ntmps48
  go_wp2
  generalize W.alloc (.cells #[.int .u8 (x0.toNat : Int), .int .u8 (x1.toNat : Int), .int .u8 (x2.toNat : Int), .int .u8 (x3.toNat : Int)] 84) = W1 at H0 K0 HK d1 ⊢
  generalize hbx : W.heap.size = bx at K0 hsW ⊢
  have HBx := Lib.hid hbx
  clear hbx
  go_loopw [14] (fun v wr => ∃ k : Nat, k ≤ l.length ∧ v = .int .i64 (k : Nat) ∧ MpAt wr b s f (stepL [x0, x1, x2, x3] l k) ∧ Blk wr bx 84 #[.int .u8 (x0.toNat : Int), .int .u8 (x1.toNat : Int), .int .u8 (x2.toNat : Int), .int .u8 (x3.toNat : Int)] ∧ Keep (fun i => i = s) W wr) (fun v _ => l.length - (intOf v).toNat)
  case atStart => exact ⟨0, by omega, rfl, by rw [HM.out]; exact H0.out, K0.out, HK.out⟩
  case round =>
    obtain ⟨k, hk, rfl, hm, hbk, hkp⟩ := hrel
    have HA := Lib.hid hm; have HB := Lib.hid hbk; have HK := Lib.hid hkp
    clear hm hbk hkp d1
    by_cases hlt : k < l.length
    · have hl2 := stepL_len [x0, x1, x2, x3] l k
      have hcs : wr.cell? ⟨s, k, none⟩ = some (.int .u8 ((l.getD k 0).toNat : Int)) := by
        rw [HA.out.cell (by omega), stepL_get _ _ _ hlt]
      have h4 : (l.getD k 0).toNat < 4 := HS.out _ (by rw [List.getD_eq_getElem?_getD, List.getElem?_eq_getElem hlt]; exact List.getElem_mem _)
      have hset := (HA.out.set (k := k) (by omega) (nx [x0, x1, x2, x3] (l.getD k 0)))
      rw [stepL_set _ _ _ hlt] at hset
      have hbn : bx ≠ s := by omega
      have hb1 := HB.out.far (p := ⟨s, k, none⟩) (by show bx ≠ s; exact hbn) (b8 (nx [x0, x1, x2, x3] (l.getD k 0)))
      have hk1 := HK.out.setCell (p := ⟨s, k, none⟩) (fun _ => rfl) (b8 (nx [x0, x1, x2, x3] (l.getD k 0)))
      obtain ⟨cp, cp1, cp2, hblk⟩ := HA.out.blk
      have d1 : wr.cell? ⟨b, 1, none⟩ = some (.slice (some ⟨s, 0, none⟩) l.length cp) := by rw [← hl2]; exact hblk.cell 1
      have hcb : wr.cell? ⟨bx, (l.getD k 0).toNat, none⟩ = some (b8 (nx [x0, x1, x2, x3] (l.getD k 0))) := by
        rw [HB.out.cell]
        unfold nx
        generalize (l.getD k 0).toNat = q at h4
        match q, h4 with
        | 0, _ => rfl
        | 1, _ => rfl
        | 2, _ => rfl
        | 3, _ => rfl
      generalize nx [x0, x1, x2, x3] (l.getD k 0) = y at hset hb1 hk1 hcb
      generalize (l.getD k 0).toNat = q at h4 hcs hcb
      obtain ⟨ms, hms⟩ := HA.out.st
      have hfz := hms.frozen k
      simp only [b8] at hcb hset hb1 hk1
      have H1 := Lib.hid hset; have H2 := Lib.hid hb1; have H3 := Lib.hid hk1
      have hnn := HN.out
      clear hset hb1 hk1 hms hblk hl2 hbn
      go_wp2
      go_region
      go_wp2
      go_roundw
      case rel => exact ⟨k + 1, by omega, by go_num, H1.out.after (below_drew _), H2.out, H3.out.drew⟩
      case measure => simp [intOf]; omega
    · obtain rfl : k = l.length := by omega
      have hF := HA.out
      rw [stepL_full] at hF
      have HF := Lib.hid hF
      clear hF
      go_wp2
      go_returns
      exact ⟨rfl, HF.out, HK.out⟩
theorem commit_any (b s f : Nat) (l : List UInt8) (W : World) (h : MpAt W b s f l) (hs : small l) : Calls Try.prog 27 #[.pointer (some ⟨b, 0, none⟩)] W fun e w' =>
    e = .returned (.int .i64 0) ∧ MpAt w' b s f (l.map (nx [0, 1, 1, 0])) ∧ Keep (fun i => i = s) W w' := by
  have H := Lib.hid (become_any b s f l 0 1 1 0 W h hs)
  clear h hs
  go_enter Try.func27, Try.ntmps27
  go_wp2_with fail
  refine H.out.mono ?_
  rintro e w' ⟨rfl, h1, h2⟩
  have HF := Lib.hid (And.intro h1 h2)
  clear h1 h2
  go_wp2
  go_returns
  exact ⟨rfl, HF.out⟩
theorem abort_any (b s f : Nat) (l : List UInt8) (W : World) (h : MpAt W b s f l) (hs : small l) : Calls Try.prog 26 #[.pointer (some ⟨b, 0, none⟩)] W fun e w' =>
    e = .returned (.int .i64 0) ∧ MpAt w' b s f (l.map (nx [0, 1, 0, 1])) ∧ Keep (fun i => i = s) W w' := by
  have H := Lib.hid (become_any b s f l 0 1 0 1 W h hs)
  clear h hs
  go_enter Try.func26, Try.ntmps26
  go_wp2_with fail
  refine H.out.mono ?_
  rintro e w' ⟨rfl, h1, h2⟩
  have HF := Lib.hid (And.intro h1 h2)
  clear h1 h2
  go_wp2
  go_returns
  exact ⟨rfl, HF.out⟩
end Go.Proofs.Ytbeemkamjachpaa
