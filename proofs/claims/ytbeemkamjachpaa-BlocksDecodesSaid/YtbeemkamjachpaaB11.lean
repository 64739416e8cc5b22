/- Give, by contracts. -/
import Derived.Test.YtbeemkamjachpaaB10
namespace Go.Proofs.Ytbeemkamjachpaa
open Go.RowKit
set_option maxRecDepth 100000
theorem give_out (b s f : Nat) (l : List UInt8) (x : Int) (W : World) (h : MpAt W b s f l) (hx : x ≤ 9223372036854775807) (hin : inR f l.length x = false) : Calls Try.prog 33 #[.pointer (some ⟨b, 0, none⟩), .int .i64 x] W fun e w' =>
    e = .returned (.int .i64 2) ∧ Below W.heap.size W w' := by
  have H := Lib.hid (state_out b s f l x W h hx hin)
  clear h hin
  go_enter Try.func33, Try.ntmps33
  go_wp2_with fail
  refine H.out.mono ?_
  rintro e w' ⟨rfl, hb⟩
  have HB := Lib.hid hb
  clear hb H
  go_wp2
  go_returns
  exact ⟨rfl, HB.out⟩
theorem give_bad (b s f : Nat) (l : List UInt8) (k : Nat) (W : World) (h : MpAt W b s f l) (hk : k < l.length) (h1 : (l.getD k 0).toNat ≠ 1) (h2 : (l.getD k 0).toNat ≠ 2) : Calls Try.prog 33 #[.pointer (some ⟨b, 0, none⟩), .int .i64 ((f : Int) + (k : Nat))] W fun e w' =>
    e = .returned (.int .i64 10) ∧ Below W.heap.size W w' := by
  have H := Lib.hid (state_in b s f l k W h hk)
  clear h
  generalize (l.getD k 0).toNat = q at H h1 h2
  have e1 : ((q : Int) == 1) = false := by simp; omega
  have e2 : ((q : Int) == 2) = false := by simp; omega
  clear h1 h2
  go_enter Try.func33, Try.ntmps33
  go_wp2_with fail
  refine H.out.mono ?_
  rintro e w' ⟨rfl, hb⟩
  have HB := Lib.hid hb
  clear hb H
  go_wp2
  go_returns
  exact ⟨rfl, HB.out⟩
set_option maxHeartbeats 1000000 in
theorem give_ok (b s f : Nat) (l : List UInt8) (k : Nat) (W : World) (h : MpAt W b s f l) (hk : k < l.length) (q : Nat) (h1 : (l.getD k 0).toNat = q) (hq : q = 1) : Calls Try.prog 33 #[.pointer (some ⟨b, 0, none⟩), .int .i64 ((f : Int) + (k : Nat))] W fun e w' =>
    e = .returned (.int .i64 0) ∧ MpAt w' b s f (l.set k 3) ∧ Keep (fun i => i = s) W w' := by
  have H := Lib.hid (state_in b s f l k W h hk)
  rw [h1, hq] at H
  have HM := Lib.hid h
  have hf := h.f1; have hn := h.n1
  clear h h1 hq
  go_enter Try.func33, Try.ntmps33
  go_wp2_with fail
  refine H.out.mono ?_
  rintro e w1 ⟨rfl, hb⟩
  have h1 := HM.out.after hb
  have hset := (h1.set hk 3).after (below_drew _)
  have hkp := ((Keep.of_below (S := fun i => i = s) hb).setCell (p := ⟨s, k, none⟩) (fun _ => rfl) (b8 3)).drew
  obtain ⟨cap, hc1, hc2, hblk⟩ := h1.blk
  have d0 : w1.cell? ⟨b, 0, none⟩ = some (.int .i64 (f : Nat)) := hblk.cell 0
  have d1 : w1.cell? ⟨b, 1, none⟩ = some (.slice (some ⟨s, 0, none⟩) l.length cap) := hblk.cell 1
  have hcs := h1.cell hk
  obtain ⟨ms, hms⟩ := h1.st
  have hfz := hms.frozen k
  have ek : (f : Int) + (k : Nat) - (f : Nat) = (k : Nat) := by omega
  generalize (l.getD k 0).toNat = x at hcs
  have H1 : Hid (MpAt (w1.setCell ⟨s, k, none⟩ (.int .u8 3)).drew b s f (l.set k 3)) := Lib.hid hset
  have H2 : Hid (Keep (fun i => i = s) W (w1.setCell ⟨s, k, none⟩ (.int .u8 3)).drew) := Lib.hid hkp
  clear hset hkp h1 hb hms hblk H HM
  go_wp2
  go_region
  go_wp2
  go_returns
  exact ⟨rfl, H1.out, H2.out⟩
set_option maxHeartbeats 1000000 in
theorem give_ok2 (b s f : Nat) (l : List UInt8) (k : Nat) (W : World) (h : MpAt W b s f l) (hk : k < l.length) (q : Nat) (h1 : (l.getD k 0).toNat = q) (hq : q = 2) : Calls Try.prog 33 #[.pointer (some ⟨b, 0, none⟩), .int .i64 ((f : Int) + (k : Nat))] W fun e w' =>
    e = .returned (.int .i64 0) ∧ MpAt w' b s f (l.set k 0) ∧ Keep (fun i => i = s) W w' := by
  have H := Lib.hid (state_in b s f l k W h hk)
  rw [h1, hq] at H
  have HM := Lib.hid h
  have hf := h.f1; have hn := h.n1
  clear h h1 hq
  go_enter Try.func33, Try.ntmps33
  go_wp2_with fail
  refine H.out.mono ?_
  rintro e w1 ⟨rfl, hb⟩
  have h1 := HM.out.after hb
  have hset := (h1.set hk 0).after (below_drew _)
  have hkp := ((Keep.of_below (S := fun i => i = s) hb).setCell (p := ⟨s, k, none⟩) (fun _ => rfl) (b8 0)).drew
  obtain ⟨cap, hc1, hc2, hblk⟩ := h1.blk
  have d0 : w1.cell? ⟨b, 0, none⟩ = some (.int .i64 (f : Nat)) := hblk.cell 0
  have d1 : w1.cell? ⟨b, 1, none⟩ = some (.slice (some ⟨s, 0, none⟩) l.length cap) := hblk.cell 1
  have hcs := h1.cell hk
  obtain ⟨ms, hms⟩ := h1.st
  have hfz := hms.frozen k
  have ek : (f : Int) + (k : Nat) - (f : Nat) = (k : Nat) := by omega
  generalize (l.getD k 0).toNat = x at hcs
  have H1 : Hid (MpAt (w1.setCell ⟨s, k, none⟩ (.int .u8 0)).drew b s f (l.set k 0)) := Lib.hid hset
  have H2 : Hid (Keep (fun i => i = s) W (w1.setCell ⟨s, k, none⟩ (.int .u8 0)).drew) := Lib.hid hkp
  clear hset hkp h1 hb hms hblk H HM
  go_wp2
  go_region
  go_wp2
  go_returns
  exact ⟨rfl, H1.out, H2.out⟩
end Go.Proofs.Ytbeemkamjachpaa
