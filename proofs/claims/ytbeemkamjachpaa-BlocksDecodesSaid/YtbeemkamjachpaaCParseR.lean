/- The codec's first functions: Parse, Append, Size, and the reference's Parse and Natural, each by a contract. -/
import Derived.Test.YtbeemkamjachpaaCGroupsR
import Derived.Test.YtbeemkamjachpaaCParse
import Derived.Test.YtbeemkamjachpaaCNat
namespace Go.Proofs.Ytbeemkamjachpaa
open Go.RowKit
set_option maxRecDepth 100000
/-- With nine groups at most both readers agree. -/
theorem grpR_9 (l : List UInt8) : grpR l 9 = grp l 9 := by
  unfold grpR grp
  split
  · rfl
  · rw [if_neg (c := gE l = 9 ∧ _) (by omega)]
set_option maxHeartbeats 400000 in
theorem parseR_any (A : Option Addr) (n c : Nat) (l : List UInt8) (w : World) (hr : Rd w w.heap.size L8 A n l) (hn : n ≤ 9223372036854775807) :
    Calls Try.prog 60 #[.slice A n c] w fun e w' => e = .returned (.tuple #[.int .i64 ((grp l 9).1 : Nat), .int .i64 ((grp l 9).2.1 : Nat), .int .i64 ((grp l 9).2.2 : Nat)]) ∧ w = w' := by
  have h9 : ((grp l 9).1 : Int) < 9223372036854775808 := by have := grp_small l; omega
  generalize hg : grp l 9 = g at h9 ⊢
  have H9 := Lib.hid h9; clear h9
  have Hg := Lib.hid hg; clear hg
  obtain ⟨g1, g2, g3⟩ := g
  go_enter Try.func60, Try.ntmps60
  go_wp2_with fail
  refine (groupsR_any A n c 9 l w hr hn (by omega)).mono ?_
  rintro e w' ⟨rfl, rfl⟩
  rw [grpR_9]
  rw [Hg.out]
  have h9 := H9.out
  go_wp2
  go_ret3
  exact ⟨rfl, rfl⟩
end Go.Proofs.Ytbeemkamjachpaa
