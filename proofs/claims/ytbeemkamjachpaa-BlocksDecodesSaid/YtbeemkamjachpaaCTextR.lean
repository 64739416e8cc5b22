/- The reference's encoding of a text, by a contract. -/
import Derived.Test.YtbeemkamjachpaaCNaturalR
import Derived.Test.YtbeemkamjachpaaCParseR
namespace Go.Proofs.Ytbeemkamjachpaa
open Go.RowKit
set_option maxRecDepth 100000
set_option maxHeartbeats 400000 in
theorem textR_any (l : List UInt8) (w : World) (hl : l.length ≤ 1000000) :
    Calls Try.prog 62 #[.string (str l)] w fun e w' => ∃ A m c, e = .returned (.slice A m c) ∧ Own w' w.heap.size 5 L8 (.slice A m c) (nat l.length ++ l) ∧ Below w.heap.size w w' := by
  have hsz : (str l).size = l.length := rfl
  have hnl := (nat_len l.length).2
  go_enter Try.func62, Try.ntmps62
  go_wp2_with fail
  refine (naturalR_any l.length (by omega) w).mono ?_
  rintro e w1 ⟨A, m, c, rfl, hown, hb⟩
  go_wp2
  have HO := Lib.hid hown; clear hown
  have hs1 := hb.size
  go_loopw [3, 4] (fun v i wr => ∃ k : Nat, k ≤ l.length ∧ i = .int .i64 (k : Nat) ∧ Own wr w.heap.size 5 L8 v (nat l.length ++ l.take k) ∧ Below w.heap.size w wr) (fun _ i _ => l.length - (intOf i).toNat)
  case atStart => exact ⟨0, by omega, rfl, by simpa using HO.out, hb⟩
  case round =>
    obtain ⟨k, hk, rfl, hown, hbr⟩ := hrel
    have hsr := hbr.size
    by_cases hlt : k < l.length
    · have hnew : nat l.length ++ l.take (k + 1) = (nat l.length ++ l.take k) ++ [l.getD k 0] := by rw [take_succ_getD l k hlt, List.append_assoc]
      have hcl : (nat l.length ++ l.take k).length ≤ 1000010 := by simp; omega
      generalize nat l.length ++ l.take k = cur at hown hnew hcl
      have hlt' : k < (str l).size := hlt
      have hgt := str_get l k hlt'
      generalize l.getD k 0 = ch at hgt hnew
      have HN := Lib.hid hnew; clear hnew
      have HG := Lib.hid hgt; clear hgt
      go_wp2_with (at_builtin; refine ap_one _ rfl _ _ El8 rfl w.heap.size _ cur rfl (hown.alloc _) _ _ ch rfl ?c1 ?c2 ?c3 ?c4 ?_)
      case c1 => exact new_at (by rw [HG.out]; rfl)
      case c2 => omega
      case c3 => omega
      case c4 => simp; omega
      intro A' c' w' hown' hg _ _ _
      have hb' := (hown.alloc _).belowGrown (hbr.alloc hsr _) (by simp; omega) (Nat.le_refl _) hg
      rw [← HN.out] at hown'
      have HO' := Lib.hid hown'
      clear hg hown hbr hown'
      go_wp2
      go_roundw
      case rel => exact ⟨k + 1, by omega, by go_num, HO'.out, hb'⟩
      case measure => simp [intOf]; omega
    · obtain rfl : k = l.length := by omega
      obtain ⟨A', n', c', rfl⟩ := hown.sl
      rw [List.take_length] at hown
      have HO' := Lib.hid hown; clear hown
      go_wp2
      go_ret
      exact ⟨_, _, _, rfl, HO'.out, hbr⟩
end Go.Proofs.Ytbeemkamjachpaa
