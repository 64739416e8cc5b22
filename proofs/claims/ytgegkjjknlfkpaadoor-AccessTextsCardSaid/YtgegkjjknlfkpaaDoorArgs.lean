/- How the laws' arguments are opened. -/
import Derived.Test.YtgegkjjknlfkpaaDoorLaid
import Derived.Lib.SmallJoins
namespace Go.Proofs.YtgegkjjknlfkpaaDoor
open Go.ChangeShapes Go.WideShapes Go.ChangeAt Go.RowKit Go.Deep
theorem okWide_array {P : Program} {w : World} {r : Reach} {b0 : Nat} {t n e} {v : Value} (ht : P.underlying t = some (.array n e)) (h : Value.okWide P w r b0 t v) : ∃ cs, v = .agg cs ∧ cs.size = P.cellsOf t := by
  simp only [Value.okWide, ht] at h
  obtain ⟨cs, h1, h2, _⟩ := h
  exact ⟨cs, h1, h2⟩
section
variable {H : Type} {enc : TypeId × Value → H} {w : World} {r : Reach} {b0 : Nat} {v : Value} {d : DataW H} {p : List MemPlace}
theorem open_id (hv : Value.okWide Tryd.prog w r b0 24 v) (h : DataW.Trod enc Tryd.prog w 0 (fun _ => true) true 24 v d p) :
    ∃ u A n c l, v = .agg #[.int .i64 u, .slice A n c] ∧ Rd w w.heap.size LI A n l ∧ n ≤ c ∧ c ≤ 9223372036854775807 := by
  obtain ⟨c0, c1, y0, y1, m, rfl, rfl, rfl, hy0, hy1⟩ := Joins.open_agg2 Tryd.underlying24 (by kernel_rfl) (by kernel_rfl) hv h
  obtain ⟨u, e0, _, _⟩ := DataW.trod_int Tryd.underlying3 hy0
  simp at e0
  subst e0
  have hs : ∃ A n c, c1 = .slice A n c := by
    rcases open_slice Tryd.underlying22 hy1 with ⟨hcs, _⟩ | ⟨x, ln, cp, _, _, _, _, hcs, _⟩
    · simp at hcs; exact ⟨_, _, _, hcs⟩
    · simp at hcs; exact ⟨_, _, _, hcs⟩
  obtain ⟨A, n, c, rfl⟩ := hs
  obtain ⟨l, hr, _, h1, h2⟩ := open_lay (L := LI) (Ok := fun _ => True) Tryd.underlying22 (by kernel_rfl) (fun n cs y hy => by
    obtain ⟨k, hk, _, _⟩ := DataW.trod_int Tryd.underlying3 hy
    exact ⟨k, hk, trivial⟩) ⟨m, hy1⟩
  exact ⟨u, A, n, c, l, rfl, hr, h1, h2⟩
theorem open_file (hv : Value.okWide Tryd.prog w r b0 26 v) (h : DataW.Trod enc Tryd.prog w 0 (fun _ => true) true 26 v d p) :
    ∃ a b c, v = .agg #[.int .i64 a, .int .i64 b, .int .i64 c] := by
  obtain ⟨c0, c1, c2, y0, y1, y2, m, rfl, rfl, rfl, hy0, hy1, hy2⟩ := Joins.open_agg3 Tryd.underlying26 (by kernel_rfl) (by kernel_rfl) hv h
  obtain ⟨a, e0, _, _⟩ := DataW.trod_int Tryd.underlying3 hy0
  obtain ⟨b, e1, _, _⟩ := DataW.trod_int Tryd.underlying3 hy1
  obtain ⟨c, e2, _, _⟩ := DataW.trod_int Tryd.underlying3 hy2
  simp at e0 e1 e2
  subst e0; subst e1; subst e2
  exact ⟨a, b, c, rfl⟩
theorem open_two (hv : Value.okWide Tryd.prog w r b0 27 v) (h : DataW.Trod enc Tryd.prog w 0 (fun _ => true) true 27 v d p) :
    ∃ x y : Nat, v = .agg #[.int .u8 (x : Nat), .int .u8 (y : Nat)] := by
  obtain ⟨cs, rfl, hsz⟩ := okWide_array Tryd.underlying27 hv
  obtain ⟨fuel, hf⟩ := h
  obtain ⟨xs, m1, rfl, hx1, hlen, hn3, hel⟩ := DataW.trod_array Tryd.underlying27 hf
  have c5 : Tryd.prog.cellsOf 5 = 1 := by kernel_rfl
  have h0 := hel 0 (by decide); have h1 := hel 1 (by decide)
  rw [c5] at h0 h1
  rw [show Tryd.prog.cellsOf 27 = 2 by kernel_rfl] at hsz
  obtain ⟨l⟩ := cs
  match l, hsz, xs, hn3, h0, h1 with
  | [y0, y1], _, [x0, x1], _, h0, h1 =>
    simp [Value.cells] at h0 h1
    obtain ⟨a, e0, _, wa⟩ := DataW.trod_int Tryd.underlying5 h0
    obtain ⟨b, e1, _, wb⟩ := DataW.trod_int Tryd.underlying5 h1
    simp at e0 e1
    subst e0; subst e1
    have ba := bounds_u8 wa; have bb := bounds_u8 wb
    exact ⟨a.toNat, b.toNat, by simp only [Int.toNat_of_nonneg ba.1, Int.toNat_of_nonneg bb.1]⟩
end
end Go.Proofs.YtgegkjjknlfkpaaDoor
