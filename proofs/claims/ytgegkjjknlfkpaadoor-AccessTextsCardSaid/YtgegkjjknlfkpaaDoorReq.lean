/- Class and Require, by contracts. -/
import Derived.Test.YtgegkjjknlfkpaaDoorBits
namespace Go.Proofs.YtgegkjjknlfkpaaDoor
open Go.RowKit
set_option maxRecDepth 100000
def LI : Lay Int := { size := 1, enc := fun x => [.int .i64 x], pos := by decide, len := fun _ => rfl, one := fun a u hu => by simp at hu; subst hu; rfl }
theorem Rd.int {w : World} {B n k : Nat} {A : Option Addr} {l : List Int} (h : Rd w B LI A n l) (hk : k < n) :
    ∃ b o x, A = some ⟨b, o, none⟩ ∧ b < B ∧ l[k]? = some x ∧ w.cell? ⟨b, o + k, none⟩ = some (.int .i64 x) := by
  obtain ⟨b, o, x, e, hb, hx, hc⟩ := h.nth hk
  exact ⟨b, o, x, e, hb, hx, by have := hc 0 _ rfl; simpa [LI] using this⟩
set_option maxHeartbeats 400000 in
theorem index_any (A : Option Addr) (n c : Nat) (l : List Int) (x : Int) (w : World) (hr : Rd w w.heap.size LI A n l) (hn : n ≤ 9223372036854775807) :
    Calls Tryd.prog 36 #[.slice A n c, .int .i64 x] w fun e w' => ∃ r : Int, e = .returned (.int .i64 r) ∧ (0 ≤ r ↔ x ∈ l) ∧ w = w' := by
  have HR := Lib.hid hr; clear hr
  go_enter Tryd.func36, Tryd.ntmps36
  go_wp2
  go_loop [8] (fun i => ∃ k : Nat, k ≤ n ∧ i = .int .i64 (k : Nat) ∧ ∀ j, j < k → l[j]? ≠ some x) (fun i => n - (intOf i).toNat)
  case atStart => exact ⟨0, by omega, rfl, by omega⟩
  case round =>
    obtain ⟨k, hk, rfl, hall⟩ := hrel
    have HA := Lib.hid hall; clear hall
    by_cases hlt : k < n
    · obtain ⟨b, o, y, rfl, hab, hy, hc⟩ := HR.out.int hlt
      have HY := Lib.hid hy; clear hy
      by_cases hxy : x = y
      · have e0 : (x == y) = true := by simp [hxy]
        have HX := Lib.hid hxy; clear hxy
        go_wp2
        go_returns
        refine ⟨_, rfl, ⟨fun _ => ?_, fun _ => by omega⟩, rfl⟩
        rw [HX.out]; exact List.mem_of_getElem? HY.out
      · have e0 : (x == y) = false := by simp [hxy]
        have HX := Lib.hid hxy; clear hxy
        go_wp2
        go_round
        case rel =>
          refine ⟨k + 1, by omega, by go_num, fun j hj h => ?_⟩
          rcases Nat.lt_or_ge j k with h' | h'
          · exact HA.out j h' h
          · obtain rfl : j = k := by omega
            rw [HY.out] at h; exact HX.out (Option.some.inj h).symm
        case measure => simp [intOf]; omega
    · obtain rfl : k = n := by omega
      go_wp2
      go_returns
      refine ⟨_, rfl, ⟨fun h => by omega, fun h => ?_⟩, rfl⟩
      obtain ⟨j, hj, hx⟩ := List.getElem_of_mem h
      exact absurd (by rw [List.getElem?_eq_getElem hj, hx]) (HA.out j (by have := HR.out.len; omega))
theorem contains_any (A : Option Addr) (n c : Nat) (l : List Int) (x : Int) (w : World) (hr : Rd w w.heap.size LI A n l) (hn : n ≤ 9223372036854775807) :
    Calls Tryd.prog 34 #[.slice A n c, .int .i64 x] w fun e w' => e = .returned (.bool (decide (x ∈ l))) ∧ w = w' := by
  go_enter Tryd.func34, Tryd.ntmps34
  go_wp2_with fail
  refine (index_any A n c l x w hr hn).mono ?_
  rintro e w1 ⟨r, rfl, hri, rfl⟩
  have he : decide (0 ≤ r) = decide (x ∈ l) := decide_eq_decide.2 hri
  have HE := Lib.hid he
  clear hri he hr
  go_wp2
  go_returns
  exact ⟨by rw [← HE.out]; rfl, rfl⟩
/-- The class of somebody for a file. -/
def classN (u : Int) (l : List Int) (owner group : Int) : Nat := if u = owner then 0 else if group ∈ l then 1 else 2
theorem classN_le (u : Int) (l : List Int) (owner group : Int) : classN u l owner group ≤ 2 := by unfold classN; split <;> (try split) <;> omega
theorem class_any (u : Int) (A : Option Addr) (n c : Nat) (l : List Int) (owner group : Int) (w : World) (hr : Rd w w.heap.size LI A n l) (hn : n ≤ 9223372036854775807) :
    Calls Tryd.prog 24 #[.agg #[.int .i64 u, .slice A n c], .int .i64 owner, .int .i64 group] w fun e w' => e = .returned (.int .i64 (classN u l owner group : Nat)) ∧ Below w.heap.size w w' := by
  by_cases h1 : u = owner
  · have e0 : (u == owner) = true := by simp [h1]
    have HC := Lib.hid (show classN u l owner group = 0 by unfold classN; rw [if_pos h1])
    clear h1 hr
    go_enter Tryd.func24, Tryd.ntmps24
    go_wp2
    go_returns
    rw [HC.out]
    exact ⟨rfl, (Below.refl _ _).alloc (Nat.le_refl _) _⟩
  · have e0 : (u == owner) = false := by simp [h1]
    have hra := fun o => hr.after (w' := w.alloc o) ((Below.refl _ _).alloc (Nat.le_refl _) o)
    have HRA := Lib.hid hra
    clear hr hra
    by_cases h2 : group ∈ l
    · have HC := Lib.hid (show classN u l owner group = 1 by unfold classN; rw [if_neg h1, if_pos h2])
      have HD := Lib.hid (show decide (group ∈ l) = true by simp [h2])
      clear h1 h2
      go_enter Tryd.func24, Tryd.ntmps24
      go_wp2_with fail
      refine (contains_any A n c l group _ (HRA.out _) hn).mono ?_
      rintro e w1 ⟨rfl, rfl⟩
      rw [HD.out]
      go_wp2
      go_returns
      rw [HC.out]
      exact ⟨rfl, (Below.refl _ _).alloc (Nat.le_refl _) _⟩
    · have HC := Lib.hid (show classN u l owner group = 2 by unfold classN; rw [if_neg h1, if_neg h2])
      have HD := Lib.hid (show decide (group ∈ l) = false by simp [h2])
      clear h1 h2
      go_enter Tryd.func24, Tryd.ntmps24
      go_wp2_with fail
      refine (contains_any A n c l group _ (HRA.out _) hn).mono ?_
      rintro e w1 ⟨rfl, rfl⟩
      rw [HD.out]
      go_wp2
      go_returns
      rw [HC.out]
      exact ⟨rfl, (Below.refl _ _).alloc (Nat.le_refl _) _⟩
end Go.Proofs.YtgegkjjknlfkpaaDoor
