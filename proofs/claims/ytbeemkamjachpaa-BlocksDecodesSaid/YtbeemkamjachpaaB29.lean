/- How the arguments of BlocksClones are opened. -/
import Derived.Test.YtbeemkamjachpaaB24
import Derived.Test.YtbeemkamjachpaaB28
namespace Go.Proofs.Ytbeemkamjachpaa
open Go.ChangeShapes Go.WideShapes Go.ChangeAt Go.RowKit Go.Deep
set_option maxRecDepth 100000
theorem agg_of_cells {v : Value} (h : v.cells.toList.length = 2) : ∃ q0 q1, v = .agg #[q0, q1] ∧ v.cells.toList = [q0, q1] := by
  cases v with
  | agg cs =>
    obtain ⟨l⟩ := cs
    simp [Value.cells] at h
    match l, h with
    | [q0, q1], _ => exact ⟨q0, q1, rfl, rfl⟩
  | _ => simp [Value.cells] at h
section
variable {H : Type} {enc : TypeId × Value → H} {w : World} {v : Value} {d : DataW H} {p : List MemPlace}
theorem open_cnts (h : DataW.Trod enc Try.prog w 0 (fun _ => true) true 57 v d p) : ∃ y0 y1 : Nat, v = .agg #[.int .u8 (y0 : Nat), .int .u8 (y1 : Nat)] ∧ y0 < 256 ∧ y1 < 256 := by
  obtain ⟨fuel, hf⟩ := h
  obtain ⟨xs, m, _, _, hl, hxl, hi⟩ := DataW.trod_array Try.underlying57 hf
  rw [show Try.prog.cellsOf 57 = 2 by kernel_rfl] at hl
  obtain ⟨q0, q1, rfl, hc⟩ := agg_of_cells hl
  have e5 : Try.prog.cellsOf 5 = 1 := by kernel_rfl
  have h0 := hi 0 (by decide); have h1 := hi 1 (by decide)
  rw [hc] at h0 h1
  match xs, hxl with
  | [z0, z1], _ =>
    simp [e5] at h0 h1
    obtain ⟨k, hk, _, wk⟩ := DataW.trod_int Try.underlying5 h0
    obtain ⟨s, hs, _, ws⟩ := DataW.trod_int Try.underlying5 h1
    simp only [List.cons.injEq, and_true] at hk hs
    subst hk; subst hs
    have bk := bounds_u8 wk
    have bs := bounds_u8 ws
    obtain ⟨a, rfl⟩ := Int.eq_ofNat_of_zero_le bk.1
    obtain ⟨b, rfl⟩ := Int.eq_ofNat_of_zero_le bs.1
    exact ⟨a, b, rfl, by omega, by omega⟩
theorem open_row {fuel : Nat} {q : Value} {z : DataW H × List MemPlace} (h : DataW.trod enc Try.prog w 0 (fun _ => true) true fuel 23 [q] = some z) : ∃ B m c o, q = .slice B m c ∧ Rd w w.heap.size LO B m o ∧ (∀ x ∈ o, -9223372036854775808 ≤ x.block ∧ x.block ≤ 9223372036854775807) ∧ m ≤ 9223372036854775807 := by
  have hq : ∃ B m c, q = .slice B m c := by
    rcases DataW.trod_slice Try.underlying23 h with ⟨hc, _⟩ | ⟨a, len, cap, _, _, _, _, hc, _⟩
    · simp only [List.cons.injEq, and_true] at hc
      exact ⟨_, _, _, hc⟩
    · simp only [List.cons.injEq, and_true] at hc
      exact ⟨_, _, _, hc⟩
  obtain ⟨B, m, c, rfl⟩ := hq
  have ht : DataW.Trod enc Try.prog w 0 (fun _ => true) true 23 (.slice B m c) z.1 z.2 := ⟨fuel, h⟩
  obtain ⟨l, hr, ho, h1, h2⟩ := open_lay (L := LO) (Ok := fun x : OV => -9223372036854775808 ≤ x.block ∧ x.block ≤ 9223372036854775807) Try.underlying23 (by kernel_rfl) (fun n cs y hy => open_opC hy) ht
  exact ⟨B, m, c, l, rfl, hr, ho, Nat.le_trans h1 h2⟩
theorem open_lists (h : DataW.Trod enc Try.prog w 0 (fun _ => true) true 58 v d p) : ∃ B0 m0 c0 o0 B1 m1 c1 o1, v = .agg #[.slice B0 m0 c0, .slice B1 m1 c1] ∧ Rd w w.heap.size LO B0 m0 o0 ∧ (∀ x ∈ o0, -9223372036854775808 ≤ x.block ∧ x.block ≤ 9223372036854775807) ∧ m0 ≤ 9223372036854775807 ∧ Rd w w.heap.size LO B1 m1 o1 ∧ (∀ x ∈ o1, -9223372036854775808 ≤ x.block ∧ x.block ≤ 9223372036854775807) ∧ m1 ≤ 9223372036854775807 := by
  obtain ⟨fuel, hf⟩ := h
  obtain ⟨xs, m, _, _, hl, hxl, hi⟩ := DataW.trod_array Try.underlying58 hf
  rw [show Try.prog.cellsOf 58 = 2 by kernel_rfl] at hl
  obtain ⟨q0, q1, rfl, hc⟩ := agg_of_cells hl
  have e23 : Try.prog.cellsOf 23 = 1 := by kernel_rfl
  have h0 := hi 0 (by decide); have h1 := hi 1 (by decide)
  rw [hc] at h0 h1
  match xs, hxl with
  | [z0, z1], _ =>
    simp [e23] at h0 h1
    obtain ⟨B0, m0, c0, o0, rfl, a1, a2, a3⟩ := open_row h0
    obtain ⟨B1, m1, c1, o1, rfl, b1, b2, b3⟩ := open_row h1
    exact ⟨B0, m0, c0, o0, B1, m1, c1, o1, rfl, a1, a2, a3, b1, b2, b3⟩
end
end Go.Proofs.Ytbeemkamjachpaa
