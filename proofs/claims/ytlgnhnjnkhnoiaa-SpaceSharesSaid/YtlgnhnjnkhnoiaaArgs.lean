/- How the laws' arguments are opened. -/
import Derived.Test.YtlgnhnjnkhnoiaaOpen
import Derived.Lib.SmallJoins
namespace Go.Proofs.Ytlgnhnjnkhnoiaa
open Go.ChangeShapes Go.WideShapes Go.ChangeAt Go.RowKit Go.Deep
set_option maxRecDepth 100000
/-- An operation, by its fields. -/
structure OpV where
  kind : UInt8
  which : UInt8
  at_ : Int
  n : Int
  s : List UInt8
def OpV.vals (o : OpV) : List Value := [b8 o.kind, b8 o.which, .int .i64 o.at_, .int .i64 o.n, .string (str o.s)]
structure OpV.Ok (o : OpV) : Prop where
  a1 : -9223372036854775808 ≤ o.at_
  a2 : o.at_ ≤ 9223372036854775807
  n1 : -9223372036854775808 ≤ o.n
  n2 : o.n ≤ 9223372036854775807
  l : o.s.length ≤ 9223372036854775807
section
variable {H : Type} {enc : TypeId × Value → H} {w : World} {r : Reach} {b0 : Nat} {v : Value} {d : DataW H} {p : List MemPlace}
theorem open_opC {base n : Nat} {spare : Nat → Bool} {held : Bool} {cs : List Value} {y : DataW H × List MemPlace} (hy : DataW.trod enc Try.prog w base spare held n 44 cs = some y) : ∃ o : OpV, cs = o.vals ∧ o.Ok := by
  obtain ⟨xs, n', _, _, hcl, hxl, hf⟩ := DataW.trod_struct Try.underlying44 hy
  rw [show Try.prog.cellsOf 44 = 5 by kernel_rfl] at hcl
  have h0 := hf 0 _ rfl; have h1 := hf 1 _ rfl; have h2 := hf 2 _ rfl; have h3 := hf 3 _ rfl; have h4 := hf 4 _ rfl
  have e5 : Try.prog.cellsOf 5 = 1 := by kernel_rfl
  have e3 : Try.prog.cellsOf 3 = 1 := by kernel_rfl
  have e9 : Try.prog.cellsOf 9 = 1 := by kernel_rfl
  match cs, hcl, xs, hxl with
  | [q0, q1, q2, q3, q4], _, [y0, y1, y2, y3, y4], _ =>
    simp at h0 h1 h2 h3 h4
    simp only [e5, e3, e9, List.take_succ_cons, List.take_zero] at h0 h1 h2 h3 h4
    obtain ⟨k, hk, _, wk⟩ := DataW.trod_int Try.underlying5 h0
    obtain ⟨m, hm, _, wm⟩ := DataW.trod_int Try.underlying5 h1
    obtain ⟨a, ha, _, wa⟩ := DataW.trod_int Try.underlying3 h2
    obtain ⟨c, hc, _, wc⟩ := DataW.trod_int Try.underlying3 h3
    obtain ⟨s, hs, _, ws⟩ := DataW.trod_string Try.underlying9 h4
    simp only [List.cons.injEq, and_true] at hk hm ha hc hs
    subst hk; subst hm; subst ha; subst hc; subst hs
    have bk := bounds_u8 wk; have bm := bounds_u8 wm; have ba := bounds_i64 wa; have bc := bounds_i64 wc
    refine ⟨⟨UInt8.ofNat k.toNat, UInt8.ofNat m.toNat, a, c, s.data.toList⟩, ?_, ⟨ba.1, ba.2, bc.1, bc.2, ?_⟩⟩
    · simp only [OpV.vals, b8, str_of]
      rw [show ((UInt8.ofNat k.toNat).toNat : Int) = k by simp; omega, show ((UInt8.ofNat m.toNat).toNat : Int) = m by simp; omega]
    · have := ws
      rw [Lib.size_eq] at this
      exact this
theorem open_op (hv : Value.okWide Try.prog w r b0 44 v) (h : DataW.Trod enc Try.prog w 0 (fun _ => true) true 44 v d p) : ∃ o : OpV, v = .agg o.vals.toArray ∧ o.Ok := by
  obtain ⟨cs, rfl, _⟩ := okWide_struct Try.underlying44 hv
  obtain ⟨fuel, hf⟩ := h
  obtain ⟨o, ho, hok⟩ := open_opC hf
  refine ⟨o, ?_, hok⟩
  rw [← ho]
  simp [Value.cells]
end
end Go.Proofs.Ytlgnhnjnkhnoiaa
