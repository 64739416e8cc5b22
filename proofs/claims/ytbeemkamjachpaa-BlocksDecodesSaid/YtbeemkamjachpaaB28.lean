/- slices.Equal of bytes, and Equal, by contracts. -/
import Derived.Test.YtbeemkamjachpaaB26
namespace Go.Proofs.Ytbeemkamjachpaa
open Go.RowKit
set_option maxRecDepth 100000
set_option maxHeartbeats 1000000 in
theorem sequal_any (A1 : Option Addr) (n1 c1 : Nat) (l1 : List UInt8) (A2 : Option Addr) (n2 c2 : Nat) (l2 : List UInt8) (W : World) (h1 : Rd W W.heap.size L8 A1 n1 l1) (h2 : Rd W W.heap.size L8 A2 n2 l2) (hn1 : n1 ≤ 65536) (hn2 : n2 ≤ 65536) :
    Calls Try.prog 51 #[.slice A1 n1 c1, .slice A2 n2 c2] W fun e w' => e = .returned (.bool (decide (l1 = l2))) ∧ Below W.heap.size W w' := by
  have H1 := Lib.hid h1; have H2 := Lib.hid h2
  have hl1 := h1.len; have hl2 := h2.len
  clear h1 h2
  by_cases hne : n1 = n2
  · subst hne
    have HD := Lib.hid (show decide (l1 = l2) = decide (l1.drop 0 = l2.drop 0) by rw [List.drop_zero, List.drop_zero])
    have HL1 := Lib.hid hl1; have HL2 := Lib.hid hl2
    have HB := Lib.hid (Below.refl W.heap.size W)
    clear hl1 hl2
    go_enter Try.func51, Try.ntmps51
    go_wp2
    go_loopw [13] (fun v wr => ∃ k : Nat, k ≤ n1 ∧ v = .int .i64 (k : Nat) ∧ Below W.heap.size W wr ∧ decide (l1 = l2) = decide (l1.drop k = l2.drop k)) (fun v _ => n1 - (intOf v).toNat)
    case atStart => exact ⟨0, by omega, rfl, HB.out, HD.out⟩
    case round =>
      obtain ⟨k, hk, rfl, hb, hd⟩ := hrel
      have HBk := Lib.hid hb
      by_cases hlt : k < n1
      · have k1 : k < l1.length := by have := HL1.out; omega
        have k2 : k < l2.length := by have := HL2.out; omega
        obtain ⟨b1, o1, x, rfl, hb1, hx, hc1⟩ := (H1.out.below hb).nth hlt
        obtain ⟨b2, o2, y, rfl, hb2, hy, hc2⟩ := (H2.out.below hb).nth hlt
        have d1 : wr.cell? ⟨b1, o1 + k, none⟩ = some (.int .u8 (x.toNat : Int)) := by
          have := hc1 0 _ rfl
          simpa [L8, b8] using this
        have d2 : wr.cell? ⟨b2, o2 + k, none⟩ = some (.int .u8 (y.toNat : Int)) := by
          have := hc2 0 _ rfl
          simpa [L8, b8] using this
        have hx' : l1[k] = x := by rw [List.getElem?_eq_getElem k1] at hx; injection hx
        have hy' : l2[k] = y := by rw [List.getElem?_eq_getElem k2] at hy; injection hy
        have hde := drop_eq_iff l1 l2 k k1 k2
        rw [hx', hy'] at hde
        clear hx hy hc1 hc2 hx' hy' hb k1 k2 hb1 hb2
        by_cases he : x = y
        · have e0 : ((x.toNat : Int) != (y.toNat : Int)) = false := by simp [he]
          have HD' := Lib.hid (hd.trans (show decide (l1.drop k = l2.drop k) = decide (l1.drop (k + 1) = l2.drop (k + 1)) by
            by_cases h : l1.drop (k + 1) = l2.drop (k + 1)
            · rw [decide_eq_true h, decide_eq_true (hde.2 ⟨he, h⟩)]
            · rw [decide_eq_false h, decide_eq_false (fun hh => h (hde.1 hh).2)]))
          clear hde hd he HD
          generalize (x.toNat : Int) = xi at d1 e0
          generalize (y.toNat : Int) = yi at d2 e0
          go_wp2
          go_quiet (fail)
          have HB' := Lib.hid (below_drewN HBk.out nq)
          clear d1 d2 HBk
          generalize wr.drewN nq = w2 at HB' ⊢
          go_wp2
          go_roundw
          case rel => exact ⟨k + 1, by omega, by go_num, HB'.out, HD'.out⟩
          case measure => simp [intOf]; omega
        · have e0 : ((x.toNat : Int) != (y.toNat : Int)) = true := by
            simp only [bne_iff_ne, ne_eq]
            intro h
            exact he (UInt8.toNat_inj.1 (by omega))
          have HD' := Lib.hid (hd.trans (show decide (l1.drop k = l2.drop k) = false from decide_eq_false (fun hh => he (hde.1 hh).1)))
          clear hde hd he HD
          generalize (x.toNat : Int) = xi at d1 e0
          generalize (y.toNat : Int) = yi at d2 e0
          go_wp2
          go_quiet (fail)
          have HB' := Lib.hid (below_drewN HBk.out nq)
          clear d1 d2 HBk
          generalize wr.drewN nq = w2 at HB' ⊢
          go_wp2
          go_returns
          exact ⟨by rw [HD'.out]; rfl, HB'.out⟩
      · obtain rfl : k = n1 := by omega
        rw [List.drop_of_length_le (by rw [HL1.out]; exact Nat.le_refl _), List.drop_of_length_le (by rw [HL2.out]; exact Nat.le_refl _)] at hd
        have HD' := Lib.hid hd
        clear hd hb HD
        go_wp2
        go_returns
        exact ⟨by rw [HD'.out]; simp, HBk.out⟩
  · have e0 : ((n1 : Int) != n2) = true := by simp; omega
    have hd : decide (l1 = l2) = false := decide_eq_false (fun e => hne (by rw [← hl1, ← hl2, e]))
    have HD := Lib.hid hd
    have HB := Lib.hid (Below.refl W.heap.size W)
    clear hd hl1 hl2 hne
    go_enter Try.func51, Try.ntmps51
    go_wp2
    go_returns
    exact ⟨by rw [HD.out]; rfl, HB.out⟩
set_option maxHeartbeats 2000000 in
theorem equal_any (b s f : Nat) (l : List UInt8) (b2 s2 f2 : Nat) (l2 : List UInt8) (W : World) (h : MpAt W b s f l) (h2 : MpAt W b2 s2 f2 l2) (hff : f = f2) : Calls Try.prog 32 #[.pointer (some ⟨b, 0, none⟩), .pointer (some ⟨b2, 0, none⟩)] W fun e w' =>
    e = .returned (.bool (decide (l = l2))) ∧ Below W.heap.size W w' := by
  subst hff
  have hn := h.n1; have hn2 := h2.n1
  obtain ⟨ca, q1, q2, k1⟩ := h.blk
  obtain ⟨cb, q3, q4, k2⟩ := h2.blk
  have hE := regrow_call (P := Try.prog) (f := 51) (args := #[.slice (some ⟨s, 0, none⟩) l.length ca, .slice (some ⟨s2, 0, none⟩) l2.length cb]) (w := W) (v := .bool (decide (l = l2))) (fun W' hW' => sequal_any _ _ _ l _ _ _ l2 W' (h.after hW').rd (h2.after hW').rd hn hn2)
  generalize decide (l = l2) = r at hE
  have HE := Lib.hid hE
  have g0 : ∀ d os, (Go.Sort.grow (redrawn W d) os).cell? ⟨b, 0, none⟩ = some (.int .i64 (f : Nat)) := regrow (p := fun W' => W'.cell? ⟨b, 0, none⟩ = some (.int .i64 (f : Nat))) fun W' hW' => (k1.after hW').cell 0
  have g1 : ∀ d os, (Go.Sort.grow (redrawn W d) os).cell? ⟨b, 1, none⟩ = some (.slice (some ⟨s, 0, none⟩) l.length ca) := regrow (p := fun W' => W'.cell? ⟨b, 1, none⟩ = some (.slice (some ⟨s, 0, none⟩) l.length ca)) fun W' hW' => (k1.after hW').cell 1
  have g2 : ∀ d os, (Go.Sort.grow (redrawn W d) os).cell? ⟨b2, 0, none⟩ = some (.int .i64 (f : Nat)) := regrow (p := fun W' => W'.cell? ⟨b2, 0, none⟩ = some (.int .i64 (f : Nat))) fun W' hW' => (k2.after hW').cell 0
  have g3 : ∀ d os, (Go.Sort.grow (redrawn W d) os).cell? ⟨b2, 1, none⟩ = some (.slice (some ⟨s2, 0, none⟩) l2.length cb) := regrow (p := fun W' => W'.cell? ⟨b2, 1, none⟩ = some (.slice (some ⟨s2, 0, none⟩) l2.length cb)) fun W' hW' => (k2.after hW').cell 1
  clear hE h h2 k1 k2
  go_enter Try.func32, Try.ntmps32
  go_wp2
  refine wp_region_quiet_below (by kernel_rfl) (by kernel_rfl) ?_
  repeat (go_big_quiet_step (exact HE.out _ _))
  refine wpQuiet_nil ?_
  rintro _ ⟨⟨dq, osq⟩, rfl⟩
  have hb := below_regrown W dq osq
  have HB := Lib.hid hb
  clear hb g0 g1 g2 g3
  generalize Go.Sort.grow (redrawn W dq) osq = w1 at HB ⊢
  go_wp2
  go_returns
  exact ⟨rfl, HB.out⟩
end Go.Proofs.Ytbeemkamjachpaa
