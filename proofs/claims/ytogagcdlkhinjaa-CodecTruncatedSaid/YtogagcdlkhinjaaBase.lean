/- The codec's first functions: Parse, Append, Size, and the reference's Parse and Natural, each by a contract. -/
import Derived.Test.YtogagcdlkhinjaaGroups
import Derived.Test.YtogagcdlkhinjaaGroupsR
import Derived.Test.YtogagcdlkhinjaaNatural
namespace Go.Proofs.Ytogagcdlkhinjaa
open Go.RowKit
set_option maxRecDepth 100000
theorem grp_lt (l : List UInt8) (m : Nat) : (grp l m).1 < 18446744073709551616 := by
  unfold grp vm; split <;> (try split) <;> (try split) <;> simp <;> omega
theorem vm_small (t : List UInt8) (h : t.length ≤ 9) : vm t < 9223372036854775808 := by
  have h1 := val_lt t
  have h9 : (128 : Nat) ^ t.length ≤ 128 ^ 9 := Nat.pow_le_pow_right (by decide) h
  have e : (128 : Nat) ^ 9 = 9223372036854775808 := by decide +kernel
  unfold vm; omega
theorem grp_small (l : List UInt8) : (grp l 9).1 < 9223372036854775808 := by
  unfold grp
  split
  · simp
  split
  · simp
  split
  · simp
  · exact vm_small _ (by rw [List.length_take]; omega)
/-- With nine groups at most both readers agree. -/
theorem grpR_9 (l : List UInt8) : grpR l 9 = grp l 9 := by
  unfold grpR grp
  split
  · rfl
  · rw [if_neg (c := gE l = 9 ∧ _) (by omega)]
set_option maxHeartbeats 400000 in
theorem parse_any (A : Option Addr) (n c : Nat) (l : List UInt8) (w : World) (hr : Rd w w.heap.size L8 A n l) (hn : n ≤ 9223372036854775807) :
    Calls Try.prog 10 #[.slice A n c] w fun e w' => e = .returned (.tuple #[.int .i64 ((grp l 9).1 : Nat), .int .i64 ((grp l 9).2.1 : Nat), .int .i64 ((grp l 9).2.2 : Nat)]) ∧ w = w' := by
  have h9 : ((grp l 9).1 : Int) < 9223372036854775808 := by have := grp_small l; omega
  generalize hg : grp l 9 = g at h9 ⊢
  have H9 := Lib.hid h9; clear h9
  have Hg := Lib.hid hg; clear hg
  obtain ⟨g1, g2, g3⟩ := g
  go_enter Try.func10, Try.ntmps10
  go_wp2_with fail
  refine (groups_any A n c 9 l w hr hn (by omega)).mono ?_
  rintro e w' ⟨rfl, rfl⟩
  rw [Hg.out]
  have h9 := H9.out
  go_wp2
  go_ret3
  exact ⟨rfl, rfl⟩
set_option maxHeartbeats 400000 in
theorem parseR_any (A : Option Addr) (n c : Nat) (l : List UInt8) (w : World) (hr : Rd w w.heap.size L8 A n l) (hn : n ≤ 9223372036854775807) :
    Calls Try.prog 11 #[.slice A n c] w fun e w' => e = .returned (.tuple #[.int .i64 ((grp l 9).1 : Nat), .int .i64 ((grp l 9).2.1 : Nat), .int .i64 ((grp l 9).2.2 : Nat)]) ∧ w = w' := by
  have h9 : ((grp l 9).1 : Int) < 9223372036854775808 := by have := grp_small l; omega
  generalize hg : grp l 9 = g at h9 ⊢
  have H9 := Lib.hid h9; clear h9
  have Hg := Lib.hid hg; clear hg
  obtain ⟨g1, g2, g3⟩ := g
  go_enter Try.func11, Try.ntmps11
  go_wp2_with fail
  refine (groupsR_any A n c 9 l w hr hn (by omega)).mono ?_
  rintro e w' ⟨rfl, rfl⟩
  rw [grpR_9]
  rw [Hg.out]
  have h9 := H9.out
  go_wp2
  go_ret3
  exact ⟨rfl, rfl⟩
set_option maxHeartbeats 400000 in
theorem size_neg (n : Int) (w : World) (hneg : n < 0) : Calls Try.prog 14 #[.int .i64 n] w fun e w' => e = .returned (.int .i64 0) ∧ w = w' := by
  go_enter Try.func14, Try.ntmps14
  go_wp2
  go_ret
  exact ⟨rfl, rfl⟩
set_option maxHeartbeats 400000 in
theorem size_any (m : Nat) (w : World) (h2 : m < 9223372036854775808) :
    Calls Try.prog 14 #[.int .i64 (m : Nat)] w fun e w' => e = .returned (.int .i64 ((nat m).length : Nat)) ∧ Below w.heap.size w w' := by
  go_enter Try.func14, Try.ntmps14
  go_wp2_with fail
  refine (natural_any m (by omega) w).mono ?_
  rintro e w' ⟨A, k, c, rfl, hown, hb⟩
  obtain ⟨rfl, _, _⟩ := hown.cap
  go_wp2
  go_ret
  exact ⟨rfl, hb⟩
set_option maxHeartbeats 400000 in
theorem append_neg (A : Option Addr) (n c : Nat) (x : Int) (w : World) (hx : x < 0) :
    Calls Try.prog 13 #[.slice A n c, .int .i64 x] w fun e w' => e = .returned (.tuple #[.slice none 0 0, .int .i64 2]) ∧ w = w' := by
  go_enter Try.func13, Try.ntmps13
  go_wp2
  go_ret2
  exact ⟨rfl, rfl⟩
set_option maxHeartbeats 400000 in
theorem append_any (A : Option Addr) (n c : Nat) (l : List UInt8) (x : Nat) (w : World) (hr : Rd w w.heap.size L8 A n l) (hn : n ≤ 1000000) (hx : x < 9223372036854775808) :
    Calls Try.prog 13 #[.slice A n c, .int .i64 (x : Nat)] w fun e w' => ∃ A' m c', e = .returned (.tuple #[.slice A' m c', .int .i64 0]) ∧ Own w' w.heap.size 5 L8 (.slice A' m c') (l ++ nat x) ∧ Below w.heap.size w w' := by
  have hxl := nat_len x
  have hl := hr.len
  have Hl := Lib.hid hl; clear hl
  go_enter Try.func13, Try.ntmps13
  go_wp2_with (at_builtin; refine ap_any _ rfl _ _ El8 rfl w.heap.size (.slice (some ⟨w.heap.size, 0, none⟩) 0 0) [] rfl ?c1 w.heap.size A n c l rfl ?c2 ?c3 ?c4 ?c5 ?_)
  case c1 => exact new_own (l := []) (Nat.le_refl _) (Nat.zero_le _) rfl
  case c2 => exact hr.alloc (Nat.le_refl _) _
  case c3 => simp; omega
  case c4 => simp; omega
  case c5 => simp
  intro A1 c1 w1 hown1 hg1 _ _ _
  have hb1 : Below w.heap.size w w1 := ((Below.refl _ _).alloc (Nat.le_refl _) _).grown hg1 (by simp) (fun k hk => by simp [Value.ownBlock] at hk; omega)
  have hs1 := hb1.size
  clear hg1
  go_wp2_with fail
  refine (natural_any x (by omega) w1).mono ?_
  rintro e w2 ⟨A2, m2, c2, rfl, hown2, hb2⟩
  have hr2 := hown2.rd
  have hown1' := hown1.after hb2
  have hs2 := hb2.size
  have hl2 : m2 ≤ 10 := by have := hown2.cap; omega
  have hl1 : l.length ≤ 1000000 := by have := Hl.out; omega
  go_wp2_with (at_builtin; refine ap_any _ rfl _ _ El8 rfl w.heap.size _ _ rfl hown1' w2.heap.size A2 _ c2 (nat x) rfl hr2 ?c1 ?c2 ?c3 ?_)
  case c1 => omega
  case c2 => omega
  case c3 => omega
  intro A3 c3 w3 hown3 hg3 _ _ _
  have hb3 := hown1'.belowGrown (hb1.trans (hb2.mono hs1)) (by omega) (Nat.le_refl _) hg3
  clear hg3 hr2 hown1' hown2
  go_wp2
  go_ret2
  exact ⟨A3, _, c3, rfl, hown3, hb3⟩
end Go.Proofs.Ytogagcdlkhinjaa
