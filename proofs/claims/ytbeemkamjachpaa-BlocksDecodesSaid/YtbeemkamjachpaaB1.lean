/- A map of blocks in memory; First, Count, has, State, by contracts. -/
import Derived.Test.YtbeemkamjachpaaOpen
import Derived.Test.YtbeemkamjachpaaNums
import Derived.Test.YtbeemkamjachpaaLits
import Derived.BigRegion
namespace Go.Proofs.Ytbeemkamjachpaa
open Go.RowKit
set_option maxRecDepth 100000
/-- Block b is a map: its first block f, its states l, in block s. -/
structure MpAt (W : World) (b s f : Nat) (l : List UInt8) : Prop where
  blk : ∃ cap, l.length ≤ cap ∧ cap ≤ 9223372036854775807 ∧ Blk W b 80 #[.int .i64 (f : Nat), .slice (some ⟨s, 0, none⟩) l.length cap]
  st : ∃ m : List Value, Blk W s 5 (l.map b8 ++ m).toArray
  f1 : f ≤ 1073741824
  n1 : l.length ≤ 65536
theorem MpAt.ne {W : World} {b s f : Nat} {l : List UInt8} (h : MpAt W b s f l) : b ≠ s := by
  obtain ⟨c, _, _, h1⟩ := h.blk
  obtain ⟨m, h2⟩ := h.st
  exact h1.ne_ h2 (by decide)
theorem MpAt.lt {W : World} {b s f : Nat} {l : List UInt8} (h : MpAt W b s f l) : b < W.heap.size ∧ s < W.heap.size := by
  obtain ⟨c, _, _, h1⟩ := h.blk
  obtain ⟨m, h2⟩ := h.st
  exact ⟨h1.lt, h2.lt⟩
theorem MpAt.cell {W : World} {b s f : Nat} {l : List UInt8} (h : MpAt W b s f l) {k : Nat} (hk : k < l.length) : W.cell? ⟨s, k, none⟩ = some (.int .u8 ((l.getD k 0).toNat : Int)) := by
  obtain ⟨m, h2⟩ := h.st
  rw [h2.cell k, List.getElem?_toArray, List.getElem?_append_left (by simpa using hk), List.getElem?_map, List.getD_eq_getElem?_getD, List.getElem?_eq_getElem hk]
  rfl
theorem MpAt.after {W W' : World} {b s f : Nat} {l : List UInt8} (h : MpAt W b s f l) (hb : Below W.heap.size W W') : MpAt W' b s f l := by
  obtain ⟨c, c1, c2, h1⟩ := h.blk
  obtain ⟨m, h2⟩ := h.st
  exact ⟨⟨c, c1, c2, h1.after hb⟩, ⟨m, h2.after hb⟩, h.f1, h.n1⟩
theorem MpAt.set {W : World} {b s f : Nat} {l : List UInt8} (h : MpAt W b s f l) {k : Nat} (hk : k < l.length) (c : UInt8) : MpAt (W.setCell ⟨s, k, none⟩ (b8 c)) b s f (l.set k c) := by
  obtain ⟨cp, c1, c2, h1⟩ := h.blk
  obtain ⟨m, h2⟩ := h.st
  refine ⟨⟨cp, by rw [List.length_set]; exact c1, c2, by rw [List.length_set]; exact h1.far h.ne _⟩, ⟨m, ?_⟩, h.f1, by rw [List.length_set]; exact h.n1⟩
  have := h2.set_ k (b8 c)
  rw [List.setIfInBounds_toArray, List.set_append_left _ _ (by simpa using hk), ← List.map_set] at this
  exact this
theorem first_any (b s f : Nat) (l : List UInt8) (W : World) (h : MpAt W b s f l) : Calls Try.prog 21 #[.pointer (some ⟨b, 0, none⟩)] W fun e w' => e = .returned (.int .i64 (f : Nat)) ∧ W = w' := by
  obtain ⟨c, _, _, h1⟩ := h.blk
  have d0 : W.cell? ⟨b, 0, none⟩ = some (.int .i64 (f : Nat)) := h1.cell 0
  clear h h1
  go_enter Try.func21, Try.ntmps21
  go_wp2
  go_returns
  exact ⟨rfl, rfl⟩
theorem count_any (b s f : Nat) (l : List UInt8) (W : World) (h : MpAt W b s f l) : Calls Try.prog 22 #[.pointer (some ⟨b, 0, none⟩)] W fun e w' => e = .returned (.int .i64 (l.length : Nat)) ∧ W = w' := by
  obtain ⟨c, _, _, h1⟩ := h.blk
  have d1 : W.cell? ⟨b, 1, none⟩ = some (.slice (some ⟨s, 0, none⟩) l.length c) := h1.cell 1
  clear h h1
  go_enter Try.func22, Try.ntmps22
  go_wp2
  go_returns
  exact ⟨rfl, rfl⟩
def inR (f n : Nat) (x : Int) : Bool := decide ((f : Int) ≤ x ∧ x < f + n)
theorem has_any (b s f : Nat) (l : List UInt8) (x : Int) (W : World) (h : MpAt W b s f l) (hx : x ≤ 9223372036854775807) : Calls Try.prog 46 #[.pointer (some ⟨b, 0, none⟩), .int .i64 x] W fun e w' => e = .returned (.bool (inR f l.length x)) ∧ Below W.heap.size W w' := by
  obtain ⟨c, _, _, h1⟩ := h.blk
  have d0 : W.cell? ⟨b, 0, none⟩ = some (.int .i64 (f : Nat)) := h1.cell 0
  have d1 : W.cell? ⟨b, 1, none⟩ = some (.slice (some ⟨s, 0, none⟩) l.length c) := h1.cell 1
  have hf := h.f1; have hn := h.n1
  have HB := Lib.hid (Below.refl W.heap.size W)
  clear h h1
  by_cases h0 : (f : Int) ≤ x
  · have e0 : decide (((f : Nat) : Int) ≤ x) = true := by simp [h0]
    have hsub : x - (f : Nat) ≤ 9223372036854775807 ∧ -9223372036854775808 ≤ x - (f : Nat) := by omega
    have hin : inR f l.length x = decide (x - (f : Nat) < (l.length : Nat)) := by
      unfold inR
      by_cases h1 : x < f + l.length
      · rw [decide_eq_true ⟨h0, h1⟩, decide_eq_true (by omega)]
      · rw [decide_eq_false (fun hh => h1 hh.2), decide_eq_false (by omega)]
    rw [hin]
    have HH := Lib.hid hin
    clear hin h0
    go_enter Try.func46, Try.ntmps46
    go_wp2
    go_quiet (fail)
    go_wp2
    go_returns
    exact ⟨rfl, below_drewN HB.out _⟩
  · have e0 : decide (((f : Nat) : Int) ≤ x) = false := by simp; omega
    have hin : inR f l.length x = false := decide_eq_false (fun hh => h0 hh.1)
    rw [hin]
    clear hin h0
    go_enter Try.func46, Try.ntmps46
    go_wp2
    go_quiet (fail)
    go_wp2
    go_returns
    exact ⟨rfl, below_drewN HB.out _⟩
end Go.Proofs.Ytbeemkamjachpaa
