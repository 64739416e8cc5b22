/- The space's cells in memory, and the operations on what a space knows, in plain Lean. -/
import Derived.Test.YtlgnhnjnkhnoiaaIMap
namespace Go.Proofs.Ytlgnhnjnkhnoiaa
open Go.RowKit
theorem flat_set2 {α : Type} (L : Lay α) : ∀ (l : List α) (k j : Nat) (x y : α) (v : Value), l[k]? = some x → j < L.size → L.enc y = (L.enc x).set j v → (l.flatMap L.enc).set (k * L.size + j) v = (l.set k y).flatMap L.enc := by
  intro l
  induction l with
  | nil => intro k j x y v h; simp at h
  | cons a r ih =>
    intro k j x y v hk hj hy
    cases k with
    | zero =>
      simp only [List.getElem?_cons_zero, Option.some.injEq] at hk
      subst hk
      rw [List.flatMap_cons, Nat.zero_mul, Nat.zero_add, List.set_append_left _ _ (by rw [L.len]; exact hj), List.set_cons_zero, List.flatMap_cons, hy]
    | succ k =>
      rw [List.getElem?_cons_succ] at hk
      have := ih k j x y v hk hj hy
      have hp := L.pos
      rw [List.flatMap_cons, List.set_append_right _ _ (by rw [L.len, Nat.add_mul]; omega), L.len, show (k + 1) * L.size + j - L.size = k * L.size + j by rw [Nat.add_mul]; omega, this, List.set_cons_succ, List.flatMap_cons]
/-- What a space knows of a page. -/
structure Sl where
  known : Bool
  asked : Bool
  changed : Bool
  own : Bool
  copy : Option Nat
def Sl.zero : Sl := ⟨false, false, false, false, none⟩
def pf (o : Option Nat) : Value := .pointer (o.map fun b => ⟨b, 0, none⟩)
def LSl : Lay Sl := { size := 5, enc := fun s => [.bool s.known, .bool s.asked, .bool s.changed, .bool s.own, pf s.copy], pos := by decide, len := fun _ => rfl, one := fun a u hu => by simp at hu; rcases hu with rfl | rfl | rfl | rfl | rfl <;> rfl }
abbrev SS := Nat → Sl
def upd {α : Type} (f : Nat → α) (p : Nat) (s : α) : Nat → α := fun q => if q = p then s else f q
theorem upd_same {α : Type} (f : Nat → α) (p : Nat) (s : α) : upd f p s p = s := if_pos rfl
theorem upd_ne {α : Type} (f : Nat → α) (p q : Nat) (s : α) (h : q ≠ p) : upd f p s q = f q := if_neg h
theorem upd_upd {α : Type} (f : Nat → α) (p : Nat) (s t : α) : upd (upd f p s) p t = upd f p t := by
  funext q; unfold upd; by_cases h : q = p <;> simp [h]
theorem upd_self {α : Type} (f : Nat → α) (p : Nat) : upd f p (f p) = f := by
  funext q; unfold upd; by_cases h : q = p <;> simp [h]
/-- The cells of a space. -/
def spc (src : Value) (sl : SS) : Array Value := (src :: ((List.range 64).map sl).flatMap LSl.enc).toArray
theorem spc_src (src : Value) (sl : SS) : (spc src sl)[0]? = some src := by simp [spc]
theorem spc_get (src : Value) (sl : SS) (p j : Nat) (hp : p < 64) (hj : j < 5) : (spc src sl)[1 + p * 5 + j]? = (LSl.enc (sl p))[j]? := by
  have h := LSl.get ((List.range 64).map sl) p j (sl p) (by simp [hp]) hj
  have e : 1 + p * 5 + j = (p * LSl.size + j) + 1 := by show _ = (p * 5 + j) + 1; omega
  rw [e]
  simp only [spc, List.getElem?_toArray, List.getElem?_cons_succ]
  exact h
theorem map_upd (sl : SS) (n p : Nat) (s : Sl) : ((List.range n).map sl).set p s = (List.range n).map (upd sl p s) := by
  apply List.ext_getElem?
  intro i
  rw [List.getElem?_set]
  by_cases h : p = i
  · subst h
    by_cases hp : p < n
    · simp [hp, upd]
    · simp [hp]
  · rw [if_neg h]
    by_cases hi : i < n
    · simp [hi, upd, show i ≠ p from fun e => h e.symm]
    · simp [hi]
theorem spc_set (src : Value) (sl : SS) (p j : Nat) (s : Sl) (v : Value) (hp : p < 64) (hj : j < 5) (hs : LSl.enc s = (LSl.enc (sl p)).set j v) : (spc src sl).setIfInBounds (1 + p * 5 + j) v = spc src (upd sl p s) := by
  have h := flat_set2 LSl ((List.range 64).map sl) p j (sl p) s v (by simp [hp]) hj hs
  have e : 1 + p * 5 + j = (p * LSl.size + j) + 1 := by show _ = (p * 5 + j) + 1; omega
  rw [e]
  unfold spc
  rw [List.setIfInBounds_toArray, List.set_cons_succ, h, map_upd]
/-- The bytes of a frame. -/
def frc (bs : List UInt8) : Array Value := (bs.map b8).toArray
theorem frc_get (bs : List UInt8) (k : Nat) (hk : k < bs.length) : (frc bs)[k]? = some (.int .u8 ((bs.getD k 0).toNat : Int)) := by
  simp only [frc, List.getElem?_toArray, List.getElem?_map]
  rw [List.getD_eq_getElem?_getD, List.getElem?_eq_getElem hk]; rfl
theorem frc_set (bs : List UInt8) (k : Nat) (c : UInt8) : (frc bs).setIfInBounds k (b8 c) = frc (bs.set k c) := by
  simp [frc, List.map_set]
/-- The bytes with which a page begins. -/
def fillL (s : List UInt8) : List UInt8 := s.take 64 ++ List.replicate (64 - s.length) 0
theorem fillL_len (s : List UInt8) : (fillL s).length = 64 := by simp [fillL]; omega
end Go.Proofs.Ytlgnhnjnkhnoiaa
