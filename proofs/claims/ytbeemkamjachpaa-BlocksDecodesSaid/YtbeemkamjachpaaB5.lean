/- slices.Index and slices.Contains, by contracts. -/
import Derived.Test.YtbeemkamjachpaaB4
namespace Go.Proofs.Ytbeemkamjachpaa
open Go.RowKit
set_option maxRecDepth 100000
def LI : Lay Int := { size := 1, enc := fun x => [.int .i64 x], pos := by decide, len := fun _ => rfl, one := fun a u hu => by simp at hu; subst hu; rfl }
/-- The index of the first x, from k on; -1 without one. -/
def idx (x : Int) : List Int → Nat → Int
  | [], _ => -1
  | a :: r, k => if x = a then (k : Int) else idx x r (k + 1)
theorem idx_has (x : Int) : ∀ (l : List Int) (k : Nat), decide (0 ≤ idx x l k) = decide (x ∈ l) := by
  intro l
  induction l with
  | nil => intro k; rfl
  | cons a r ih =>
    intro k
    unfold idx
    by_cases h : x = a
    · rw [if_pos h]; simp [h]
    · rw [if_neg h, ih]; simp [h]
theorem idx_drop (x : Int) (l : List Int) (k : Nat) (hk : k < l.length) : idx x (l.drop k) k = if x = l[k] then (k : Int) else idx x (l.drop (k + 1)) (k + 1) := by
  rw [List.drop_eq_getElem_cons hk]; rfl
set_option maxHeartbeats 1000000 in
theorem index_any (A : Option Addr) (n c : Nat) (l : List Int) (x : Int) (W : World) (h : Rd W W.heap.size LI A n l) (hn : n ≤ 9223372036854775806) : Calls Try.prog 77 #[.slice A n c, .int .i64 x] W fun e w' =>
    e = .returned (.int .i64 (idx x l 0)) ∧ W = w' := by
  have H := Lib.hid h
  have hlen := h.len
  have HL := Lib.hid hlen
  have HD := Lib.hid (show idx x l 0 = idx x (l.drop 0) 0 by rw [List.drop_zero])
  clear h hlen
  go_enter Try.func77, Try.ntmps77
  go_wp2
  go_loopw [8] (fun v wr => ∃ k : Nat, k ≤ n ∧ v = .int .i64 (k : Nat) ∧ W = wr ∧ idx x l 0 = idx x (l.drop k) k) (fun v _ => n - (intOf v).toNat)
  case atStart => exact ⟨0, by omega, rfl, rfl, HD.out⟩
  case round =>
    obtain ⟨k, hk, rfl, rfl, hix⟩ := hrel
    by_cases hlt : k < n
    · have hkl : k < l.length := by have := HL.out; omega
      obtain ⟨ba, o, y, rfl, -, hy, hc⟩ := H.out.nth hlt
      have c0 : W.cell? ⟨ba, o + k, none⟩ = some (.int .i64 y) := by
        have := hc 0 _ rfl
        simpa [LI] using this
      have hyl : l[k] = y := by rw [List.getElem?_eq_getElem hkl] at hy; injection hy
      rw [idx_drop x l k hkl, hyl] at hix
      clear hy hc hyl
      by_cases he : x = y
      · rw [if_pos he] at hix
        have e0 : (x == y) = true := by simp [he]
        have HI := Lib.hid hix
        clear hix he
        go_wp2
        go_returns
        exact ⟨by rw [HI.out]; rfl, rfl⟩
      · rw [if_neg he] at hix
        have e0 : (x == y) = false := by simp [he]
        have HI := Lib.hid hix
        clear hix he
        go_wp2
        go_roundw
        case rel => exact ⟨k + 1, by omega, by go_num, trivial, HI.out⟩
        case measure => simp [intOf]; omega
    · obtain rfl : k = n := by omega
      rw [List.drop_of_length_le (by rw [HL.out]; exact Nat.le_refl _)] at hix
      have HI := Lib.hid hix
      clear hix
      go_wp2
      go_returns
      exact ⟨by rw [HI.out]; rfl, rfl⟩
theorem contains_any (A : Option Addr) (n c : Nat) (l : List Int) (x : Int) (W : World) (h : Rd W W.heap.size LI A n l) (hn : n ≤ 9223372036854775806) : Calls Try.prog 67 #[.slice A n c, .int .i64 x] W fun e w' =>
    e = .returned (.bool (decide (x ∈ l))) ∧ W = w' := by
  have H := Lib.hid (index_any A n c l x W h hn)
  have hd := idx_has x l 0
  rw [← hd]
  clear h hd
  generalize idx x l 0 = q at H ⊢
  go_enter Try.func67, Try.ntmps67
  go_wp2_with fail
  refine H.out.mono ?_
  rintro e w' ⟨rfl, rfl⟩
  clear H
  go_wp2
  go_returns
  exact ⟨rfl, rfl⟩
end Go.Proofs.Ytbeemkamjachpaa
