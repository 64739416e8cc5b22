/- The Writer's Text, NewWriter, Bytes and Len. -/
import Derived.Test.YtbeemkamjachpaaCPut
namespace Go.Proofs.Ytbeemkamjachpaa
open Go.RowKit
set_option maxRecDepth 100000
theorem write_two (base g : Nat) (v : Value) (out b1 b2 : List UInt8) (f : Nat) (A1 : Option Addr) (n1 c1 : Nat) (A2 : Option Addr) (n2 c2 : Nat) (s : Nat) (w w1 : World) (e : TypeId) (hw : Wr w base g v out f) (hb : Below w.heap.size w w1) (hs : w1.heap.size = s)
    (h1 : Rd w1 w1.heap.size L8 A1 n1 b1) (hA1 : ∀ ad, A1 = some ad → w.heap.size ≤ ad.block) (h2 : Rd w1 w1.heap.size L8 A2 n2 b2) (hA2 : ∀ ad, A2 = some ad → w.heap.size ≤ ad.block) (hroom : out.length + b1.length + b2.length ≤ 1000000000) :
    Calls Try.prog 68 #[.pointer (some ⟨g, 0, none⟩), .int .i64 0, .slice (some ⟨s, 0, none⟩) 2 2] (w1.alloc (.cells #[.slice A1 n1 c1, .slice A2 n2 c2] e)) fun x w' => WPost base g v w (put out f (b1 ++ b2)) f x w' := by
  subst hs
  have hb2 : Below w.heap.size w (w1.alloc (.cells #[.slice A1 n1 c1, .slice A2 n2 c2] e)) := hb.alloc hb.size _
  have hw2 := hw.after hb2
  have ho1 : PartOk (w1.alloc (.cells #[.slice A1 n1 c1, .slice A2 n2 c2] e)) (w1.alloc (.cells #[.slice A1 n1 c1, .slice A2 n2 c2] e)).heap.size g v ((A1, n1, c1), b1) := PartOk.new_ hw ((h1.alloc (Nat.le_refl _) _).more (by simp)) hA1
  have ho2 : PartOk (w1.alloc (.cells #[.slice A1 n1 c1, .slice A2 n2 c2] e)) (w1.alloc (.cells #[.slice A1 n1 c1, .slice A2 n2 c2] e)).heap.size g v ((A2, n2, c2), b2) := PartOk.new_ hw ((h2.alloc (Nat.le_refl _) _).more (by simp)) hA2
  refine (write_any base g v out f _ 2 2 [((A1, n1, c1), b1), ((A2, n2, c2), b2)] _ hw2 ⟨rfl, fun _ => ⟨_, rfl, by simp, new_at rfl⟩⟩ (fun _ ad had => ?_) ?_ (by omega) (by simp; omega)).mono ?_
  · injection had with had
    subst had
    exact WS.new_ hw hb.size
  · intro p hp
    simp at hp
    rcases hp with rfl | rfl
    · exact ho1
    · exact ho2
  · intro x w' h
    have := WPost.after hb2 h
    simpa using this
set_option maxHeartbeats 400000 in
theorem text_any (base g : Nat) (v : Value) (out l : List UInt8) (f : Nat) (w : World) (hw : Wr w base g v out f) (hl : l.length ≤ 1000000) (hroom : out.length ≤ 990000000) :
    Calls Try.prog 54 #[.pointer (some ⟨g, 0, none⟩), .string (str l)] w fun e w' => WPost base g v w (put out f (nat l.length ++ l)) f e w' := by
  have hsz : (str l).size = l.length := rfl
  go_enter Try.func54, Try.ntmps54
  go_wp2_with fail
  refine (natural_any l.length (by omega) w).mono ?_
  rintro e w1 ⟨A, m, c, rfl, hown, hb⟩
  go_wp2_with (refine conv_s rfl 9 78 (.tmp 14) rfl Try.underlying9 Try.underlying78 Try.underlying5 l rfl ?_)
  intro A2 c2 w2 hr2 hA2 hb2
  have hr1 := hown.rd.after hb2
  go_wp2_with fail
  refine (write_two base g v out (nat l.length) l f A m c A2 l.length c2 _ w w2 78 hw (hb.trans (hb2.mono hb.size)) rfl hr1 (fun ad had => hown.from_ _ (by rw [had]; rfl)) hr2 (fun ad had => Nat.le_trans hb.size (hA2 ad had)) (by have := (nat_len l.length).2; omega)).mono ?_
  rintro e w3 h
  obtain rfl := h.1
  have H := Lib.hid h; clear h
  go_wp2
  go_returns
  exact H.out
set_option maxHeartbeats 400000 in
theorem cnew_any (w : World) : Calls Try.prog 52 #[] w fun e w' => e = .returned (.pointer (some ⟨w.heap.size, 0, none⟩)) ∧ Wr w' w.heap.size w.heap.size (.slice none 0 0) [] 0 ∧ Below w.heap.size w w' := by
  go_enter Try.func52, Try.ntmps52
  go_wp2
  go_returns
  exact ⟨rfl, ⟨Blk.new _ _ _, Own.nil_, Nat.le_refl _⟩, (Below.refl _ _).alloc (Nat.le_refl _) _⟩
/-- What Bytes returns. -/
def gives (out : List UInt8) (f : Nat) : List UInt8 := if f = 0 then out else []
set_option maxHeartbeats 400000 in
theorem bytes_any (base g : Nat) (v : Value) (out : List UInt8) (f : Nat) (w : World) (hw : Wr w base g v out f) (hroom : out.length ≤ 1000000000) :
    Calls Try.prog 55 #[.pointer (some ⟨g, 0, none⟩)] w fun e w' => ∃ A m c, e = .returned (.tuple #[.slice A m c, .int .i64 (f : Nat)]) ∧ Own w' w.heap.size 5 L8 (.slice A m c) (gives out f) ∧ Below w.heap.size w w' := by
  have h0 : w.cell? ⟨g, 0, none⟩ = some v := hw.blk.cell 0
  have h1 : w.cell? ⟨g, 1, none⟩ = some (.int .i64 (f : Nat)) := hw.blk.cell 1
  obtain ⟨A, c, rfl, _, _, hrd, _⟩ := hw.own.slice
  have hg := hw.blk.lt
  clear hw
  by_cases hf : f = 0
  · subst hf
    go_enter Try.func55, Try.ntmps55
    go_wp2_with (at_builtin; refine ap_any _ rfl _ _ El8 rfl w.heap.size (.slice (some ⟨w.heap.size, 0, none⟩) 0 0) [] rfl ?c1 w.heap.size A _ c out rfl ?c2 ?c3 ?c4 ?c5 ?_)
    case c1 => exact new_own (l := []) (Nat.le_refl _) (Nat.zero_le _) rfl
    case c2 => exact hrd.alloc (Nat.le_refl _) _
    case c3 => simp; omega
    case c4 => simp; omega
    case c5 => simp
    intro A1 c1 w1 hown1 hg1 _ _ _
    have hb1 : Below w.heap.size w w1 := ((Below.refl _ _).alloc (Nat.le_refl _) _).grown hg1 (by simp) (fun k hk => by simp [Value.ownBlock] at hk; omega)
    have hgv : gives out 0 = out := rfl
    have HG := Lib.hid hgv; clear hgv
    go_wp2
    go_returns
    exact ⟨A1, _, c1, rfl, by rw [HG.out]; exact hown1, hb1⟩
  · have hf' : ((f : Int) != 0) = true := by simp; omega
    go_enter Try.func55, Try.ntmps55
    go_wp2
    go_quiet (fail)
    go_wp2
    go_returns
    exact ⟨none, 0, 0, rfl, by unfold gives; rw [if_neg hf]; exact Own.nil_, below_drewN (Below.refl _ _) _⟩
end Go.Proofs.Ytbeemkamjachpaa
