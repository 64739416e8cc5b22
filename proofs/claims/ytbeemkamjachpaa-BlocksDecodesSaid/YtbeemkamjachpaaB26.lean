/- Clone, by a contract. -/
import Derived.Test.YtbeemkamjachpaaB25
namespace Go.Proofs.Ytbeemkamjachpaa
open Go.RowKit
set_option maxRecDepth 100000
theorem own_blk {w : World} {base n c : Nat} {A : Option Addr} {l : List UInt8} (h : Own w base 5 L8 (.slice A n c) l) (hn : 0 < n) : ∃ g ms, A = some ⟨g, 0, none⟩ ∧ base ≤ g ∧ Blk w g 5 (l.map b8 ++ ms).toArray := by
  have hl := h.cap.1
  rcases h.2 with ⟨hv, h0⟩ | ⟨g, cap, cur, hv, hbb, hgg, hnc, hcm, hcs, htake⟩
  · omega
  · injection hv with e1 e2 e3
    refine ⟨g, cur.toList.drop (l.length * L8.size), e1, hbb, ?_⟩
    rw [← L8_all, ← htake, List.take_append_drop]
    exact hgg
theorem MpAt.rd {W : World} {b s f : Nat} {l : List UInt8} (h : MpAt W b s f l) : Rd W W.heap.size L8 (some ⟨s, 0, none⟩) l.length l := by
  obtain ⟨m, h2⟩ := h.st
  refine ⟨rfl, fun _ => ⟨⟨s, 0, none⟩, rfl, h2.lt, fun j u hu => ?_⟩⟩
  have e : (⟨s, 0, none⟩ : Addr).add j = ⟨s, j, none⟩ := by simp [Addr.add]; exact fun h => h.symm
  rw [L8_all] at hu
  have hj : j < (l.map b8).length := (List.getElem?_eq_some_iff.1 hu).1
  rw [e, h2.cell j, List.getElem?_toArray, List.getElem?_append_left hj]
  exact hu
set_option maxHeartbeats 1000000 in
theorem sclone_any (s n c : Nat) (l : List UInt8) (W : World) (hr : Rd W W.heap.size L8 (some ⟨s, 0, none⟩) n l) (hn : n ≤ 65536) : Calls Try.prog 47 #[.slice (some ⟨s, 0, none⟩) n c] W fun e w' =>
    ∃ A c', e = .returned (.slice A n c') ∧ Own w' W.heap.size 5 L8 (.slice A n c') l ∧ Below W.heap.size W w' := by
  have hl := hr.len
  have HR := Lib.hid hr
  clear hr
  have he : (binOp .eql 78 (.slice (some ⟨s, 0, none⟩) n c) (.slice none 0 0)).run Try.prog W = .ok (.bool false) W := by kernel_rfl
  go_enter Try.func47, Try.ntmps47
  go_wp2_with (at_builtin; refine ap_any _ rfl _ _ El8 rfl W.heap.size (.slice (some ⟨W.heap.size, 0, none⟩) 0 0) [] rfl ?c1 W.heap.size (some ⟨s, 0, none⟩) n c l rfl ?c2 ?c3 ?c4 ?c5 ?_)
  case c1 => exact new_own (l := []) (Nat.le_refl _) (Nat.zero_le _) rfl
  case c2 => exact HR.out.alloc (Nat.le_refl _) _
  case c3 => simp; omega
  case c4 => simp; omega
  case c5 => simp
  intro A1 c1 w1 hown1 hg1 _ _ _
  have hb1 : Below W.heap.size W w1 := ((Below.refl _ _).alloc (Nat.le_refl _) _).grown hg1 (by simp) (fun k hk => by simp [Value.ownBlock] at hk; omega)
  have HO := Lib.hid hown1; have HB := Lib.hid hb1
  clear hown1 hg1 hb1
  go_wp2
  go_returns
  exact ⟨A1, c1, by simp, by simpa using HO.out, HB.out⟩
set_option maxHeartbeats 2000000 in
theorem clone_any (b s f : Nat) (l : List UInt8) (W : World) (hm : MpAt W b s f l) (hl : 0 < l.length) : Calls Try.prog 25 #[.pointer (some ⟨b, 0, none⟩)] W fun e w' =>
    ∃ b' s', e = .returned (.pointer (some ⟨b', 0, none⟩)) ∧ MpAt w' b' s' f l ∧ W.heap.size ≤ s' ∧ Below W.heap.size W w' := by
  obtain ⟨cap, q1, q2, hblk⟩ := hm.blk
  have d0 : W.cell? ⟨b, 0, none⟩ = some (.int .i64 (f : Nat)) := hblk.cell 0
  have d1 : W.cell? ⟨b, 1, none⟩ = some (.slice (some ⟨s, 0, none⟩) l.length cap) := hblk.cell 1
  have hn := hm.n1; have hf := hm.f1
  have HC := Lib.hid (sclone_any s l.length cap l W.drew hm.rd hn)
  have KB := Lib.hid hblk
  clear hm hblk
  go_enter Try.func25, Try.ntmps25
  go_wp2
  go_region_with (go_at_call 47; refine (HC.out).mono ?_; rintro e w1 ⟨A1, c1, rfl, hown, hb1⟩; have g0 : w1.cell? ⟨b, 0, none⟩ = some (.int .i64 (f : Nat)) := (KB.out.drew.after hb1).cell 0; have g1 : w1.cell? ⟨b, 1, none⟩ = some (.slice (some ⟨s, 0, none⟩) l.length cap) := (KB.out.drew.after hb1).cell 1; have HO := Lib.hid hown; have HB := Lib.hid hb1; clear hown hb1)
  all_goals
    go_wp2
    go_returns
    obtain ⟨g, ms, rfl, hg, hbk⟩ := own_blk HO.out hl
    have hcap := HO.out.cap
    refine ⟨w1.heap.size, g, rfl, ⟨⟨c1, hcap.2.1, by have := hcap.2.2; unfold maxLen at this; omega, Blk.new w1 80 _⟩, ⟨ms, hbk.alloc _⟩, hf, hn⟩, hg, ?_⟩
    have h1 : Below W.heap.size W w1 := ((Below.refl W.heap.size W).drew.trans (HB.out.mono (Nat.le_refl _)))
    exact h1.alloc h1.size _
end Go.Proofs.Ytbeemkamjachpaa
