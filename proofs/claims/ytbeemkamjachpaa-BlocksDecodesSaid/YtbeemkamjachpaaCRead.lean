/- The Reader's inner functions, by contracts: what the closures of Number, Flag and Text and the function signed return for the bytes that are left. -/
import Derived.Test.YtbeemkamjachpaaCParse
namespace Go.Proofs.Ytbeemkamjachpaa
open Go.RowKit
set_option maxRecDepth 100000
/-- What Number reads at the beginning of bytes: value, size, error. -/
def rNum (most : Int) (l : List UInt8) : Nat × Nat × Nat := if (grp l 9).2.2 = 0 ∧ most < ((grp l 9).1 : Int) then (0, 0, 2) else grp l 9
/-- The signed number for which a natural number stands. -/
def unsg (u : Nat) : Int := if u % 2 = 1 then -1 - ((u / 2 : Nat) : Int) else ((u / 2 : Nat) : Int)
def rSig (l : List UInt8) : Int × Nat × Nat :=
  if (grp l 10).2.2 ≠ 0 then (0, 0, (grp l 10).2.2) else if (grp l 10).2.1 = 10 ∧ 1 < (l.getD 9 0).toNat then (0, 0, 3) else (unsg (grp l 10).1, (grp l 10).2.1, 0)
def rFlag (l : List UInt8) : Bool × Nat × Nat := if l.length = 0 then (false, 0, 28) else if 1 < (l.getD 0 0).toNat then (false, 0, 3) else (decide ((l.getD 0 0).toNat = 1), 1, 0)
def rText (most : Int) (l : List UInt8) : List UInt8 × Nat × Nat :=
  if (grp l 9).2.2 ≠ 0 then ([], 0, (grp l 9).2.2) else if min most 16777216 < ((grp l 9).1 : Int) then ([], 0, 5) else if l.length < (grp l 9).1 + (grp l 9).2.1 then ([], 0, 28)
  else ((l.drop (grp l 9).2.1).take (grp l 9).1, (grp l 9).2.1 + (grp l 9).1, 0)
theorem grp_size (l : List UInt8) (m : Nat) : (grp l m).2.1 ≤ l.length := by
  have := gE_le l
  unfold grp
  split
  · simp
  split
  · simp
  split
  · simp
  · simp only; omega
set_option maxHeartbeats 400000 in
theorem num1_any (A : Option Addr) (n c : Nat) (l : List UInt8) (bx : Addr) (most : Int) (w : World) (hr : Rd w w.heap.size L8 A n l) (hn : n ≤ 9223372036854775807) (hb : w.cell? bx = some (.int .i64 most)) :
    Calls Try.prog 71 #[.slice A n c, .pointer (some bx)] w fun e w' => e = .returned (.tuple #[.int .i64 ((rNum most l).1 : Nat), .int .i64 ((rNum most l).2.1 : Nat), .int .i64 ((rNum most l).2.2 : Nat)]) ∧ w = w' := by
  generalize hg : grp l 9 = g
  have Hg := Lib.hid hg; clear hg
  obtain ⟨g1, g2, g3⟩ := g
  by_cases h3 : g3 = 0
  · subst h3
    by_cases hm : most < (g1 : Int)
    · have hR : rNum most l = (0, 0, 2) := by unfold rNum; rw [Hg.out, if_pos ⟨rfl, hm⟩]
      have HR := Lib.hid hR; clear hR
      go_enter Try.func71, Try.ntmps71
      go_wp2_with fail
      refine (parse_any A n c l w hr hn).mono ?_
      rintro e w' ⟨rfl, rfl⟩
      rw [Hg.out]
      go_wp2
      go_ret3
      rw [HR.out]
      exact ⟨rfl, rfl⟩
    · have hR : rNum most l = (g1, g2, 0) := by unfold rNum; rw [Hg.out, if_neg (fun h => hm h.2)]
      have HR := Lib.hid hR; clear hR
      go_enter Try.func71, Try.ntmps71
      go_wp2_with fail
      refine (parse_any A n c l w hr hn).mono ?_
      rintro e w' ⟨rfl, rfl⟩
      rw [Hg.out]
      go_wp2
      go_ret3
      rw [HR.out]
      exact ⟨rfl, rfl⟩
  · have hR : rNum most l = (g1, g2, g3) := by unfold rNum; rw [Hg.out, if_neg (fun h => h3 h.1)]
    have HR := Lib.hid hR; clear hR
    have e3 : ((g3 : Int) == 0) = false := by simp; omega
    go_enter Try.func71, Try.ntmps71
    go_wp2_with fail
    refine (parse_any A n c l w hr hn).mono ?_
    rintro e w' ⟨rfl, rfl⟩
    rw [Hg.out]
    go_wp2
    go_ret3
    rw [HR.out]
    exact ⟨rfl, rfl⟩
end Go.Proofs.Ytbeemkamjachpaa
