/- The reference's Class and Bits, by contracts. -/
import Derived.Test.YtgegkjjknlfkpaaDoorReq2
namespace Go.Proofs.YtgegkjjknlfkpaaDoor
open Go.RowKit
set_option maxRecDepth 100000
theorem rvalid_yes (m : Nat) (w : World) (h : m ≤ 2047) : Calls Tryd.prog 31 #[.int .i64 (m : Nat)] w fun e w' => e = .returned (.bool true) ∧ w = w' := by
  have e0 : decide (0 ≤ (m : Int)) = true := by simp
  have e1 : decide ((m : Int) ≤ 2047) = true := by simp; omega
  go_enter Tryd.func31, Tryd.ntmps31
  go_wp2
  go_returns
  exact ⟨rfl, rfl⟩
theorem rvalid_no (m : Int) (w : World) (h : m < 0 ∨ 2047 < m) : Calls Tryd.prog 31 #[.int .i64 m] w fun e w' => e = .returned (.bool false) ∧ w = w' := by
  by_cases h0 : m < 0
  · have e0 : decide (0 ≤ m) = false := by simp; omega
    go_enter Tryd.func31, Tryd.ntmps31
    go_wp2
    go_returns
    exact ⟨rfl, rfl⟩
  · have e0 : decide (0 ≤ m) = true := by simp; omega
    have e1 : decide (m ≤ 2047) = false := by simp; omega
    go_enter Tryd.func31, Tryd.ntmps31
    go_wp2
    go_returns
    exact ⟨rfl, rfl⟩
theorem rbits_yes (m c : Nat) (w : World) (hm : m ≤ 2047) (hc : c ≤ 2) : Calls Tryd.prog 15 #[.int .i64 (m : Nat), .int .i64 (c : Nat)] w fun e w' => e = .returned (.int .i64 (bitsN m c : Nat)) ∧ w = w' := by
  have hle : ∀ k, m / 8 ^ k ≤ 2047 := fun k => Nat.le_trans (Nat.div_le_self _ _) hm
  have HLe := Lib.hid hle; clear hle
  go_enter Tryd.func15, Tryd.ntmps15
  go_wp2_with fail
  refine (rvalid_yes _ w hm).mono ?_
  rintro e w' ⟨rfl, rfl⟩
  go_wp2
  go_loop [0, 5] (fun m' i => ∃ k : Nat, c ≤ k ∧ k ≤ 2 ∧ i = .int .i64 (k : Nat) ∧ m' = .int .i64 ((m / 8 ^ (k - c) : Nat) : Int)) (fun _ i => 2 - (intOf i).toNat)
  case atStart => exact ⟨c, by omega, hc, rfl, by simp⟩
  case round =>
    obtain ⟨k, hk, hk2, rfl, rfl⟩ := hrel
    have hd := HLe.out (k - c)
    by_cases hlt : k < 2
    · have hs : m / 8 ^ (k + 1 - c) = m / 8 ^ (k - c) / 8 := by rw [show k + 1 - c = (k - c) + 1 by omega, Nat.pow_succ, Nat.div_div_eq_div_mul]
      have HS := Lib.hid hs; clear hs
      generalize m / 8 ^ (k - c) = d at hd HS ⊢
      go_wp2
      go_round
      case rel => exact ⟨k + 1, by omega, by omega, by go_num, by rw [HS.out]; rfl⟩
      case measure => simp [intOf]; omega
    · obtain rfl : k = 2 := by omega
      have HB := Lib.hid (show bitsN m c = m / 8 ^ (2 - c) % 8 from rfl)
      generalize m / 8 ^ (2 - c) = d at hd HB ⊢
      go_wp2
      go_returns
      rw [HB.out]
      exact ⟨rfl, rfl⟩
theorem rclass_any (u : Int) (A : Option Addr) (n c : Nat) (l : List Int) (owner group : Int) (w : World) (hr : Rd w w.heap.size LI A n l) (hn : n ≤ 9223372036854775807) :
    Calls Tryd.prog 35 #[.agg #[.int .i64 u, .slice A n c], .int .i64 owner, .int .i64 group] w fun e w' => e = .returned (.int .i64 (classN u l owner group : Nat)) ∧ Below w.heap.size w w' := by
  by_cases h1 : u = owner
  · have e0 : (u == owner) = true := by simp [h1]
    have HC := Lib.hid (show classN u l owner group = 0 by unfold classN; rw [if_pos h1])
    clear h1 hr
    go_enter Tryd.func35, Tryd.ntmps35
    go_wp2
    go_returns
    rw [HC.out]
    exact ⟨rfl, (Below.refl _ _).alloc (Nat.le_refl _) _⟩
  · have e0 : (u == owner) = false := by simp [h1]
    have HC := Lib.hid (show classN u l owner group = if group ∈ l then 1 else 2 by unfold classN; rw [if_neg h1])
    have hra := hr.after (w' := w.alloc (.cells #[.int .i64 u, .slice A n c] 24)) ((Below.refl _ _).alloc (Nat.le_refl _) _)
    have HR := Lib.hid hra
    clear hr hra h1
    go_enter Tryd.func35, Tryd.ntmps35
    go_wp2
    go_loop [7] (fun i => ∃ k : Nat, k ≤ n ∧ i = .int .i64 (k : Nat) ∧ ∀ j, j < k → l[j]? ≠ some group) (fun i => n - (intOf i).toNat)
    case atStart => exact ⟨0, by omega, rfl, by omega⟩
    case round =>
      obtain ⟨k, hk, rfl, hall⟩ := hrel
      have HA := Lib.hid hall; clear hall
      by_cases hlt : k < n
      · obtain ⟨b, o, y, rfl, hab, hy, hc⟩ := HR.out.int hlt
        have HY := Lib.hid hy; clear hy
        by_cases hxy : y = group
        · have e1 : (y == group) = true := by simp [hxy]
          have HX := Lib.hid hxy; clear hxy
          go_wp2
          go_returns
          rw [HC.out, if_pos (by rw [← HX.out]; exact List.mem_of_getElem? HY.out)]
          exact ⟨rfl, (Below.refl _ _).alloc (Nat.le_refl _) _⟩
        · have e1 : (y == group) = false := by simp [hxy]
          have HX := Lib.hid hxy; clear hxy
          go_wp2
          go_round
          case rel =>
            refine ⟨k + 1, by omega, by go_num, fun j hj h => ?_⟩
            rcases Nat.lt_or_ge j k with h' | h'
            · exact HA.out j h' h
            · obtain rfl : j = k := by omega
              rw [HY.out] at h; exact HX.out (Option.some.inj h)
          case measure => simp [intOf]; omega
      · obtain rfl : k = n := by omega
        go_wp2
        go_returns
        rw [HC.out, if_neg (fun h => by
          obtain ⟨j, hj, hx⟩ := List.getElem_of_mem h
          exact absurd (by rw [List.getElem?_eq_getElem hj, hx]) (HA.out j (by have := HR.out.len; omega)))]
        exact ⟨rfl, (Below.refl _ _).alloc (Nat.le_refl _) _⟩
end Go.Proofs.YtgegkjjknlfkpaaDoor
