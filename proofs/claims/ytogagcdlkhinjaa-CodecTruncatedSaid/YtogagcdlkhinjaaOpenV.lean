/- A slice of the laws' values that came in. -/
import Derived.Test.YtogagcdlkhinjaaOpen
import Derived.Test.YtogagcdlkhinjaaVals
namespace Go.Proofs.Ytogagcdlkhinjaa
open Go.RowKit Go.ChangeShapes Go.WideShapes Go.Deep
theorem open_Vs {H : Type} {enc : TypeId × Value → H} {w : World} {a : Option Addr} {len cap : Nat} {d : DataW H} {p : List MemPlace} (h : DataW.Trod enc Try.prog w 0 (fun _ => true) true 36 (.slice a len cap) d p) :
    ∃ l : List V, Rd w w.heap.size LV a len l ∧ (∀ x ∈ l, x.Ok) ∧ len ≤ cap ∧ cap ≤ maxLen := by
  refine open_lay Try.underlying36 (by kernel_rfl) (fun n cs y hy => ?_) h
  obtain ⟨xs, n', _, _, hcl, hxl, hf⟩ := DataW.trod_struct Try.underlying51 hy
  rw [show Try.prog.cellsOf 51 = 5 by kernel_rfl] at hcl
  have h0 := hf 0 _ rfl; have h1 := hf 1 _ rfl; have h2 := hf 2 _ rfl; have h3 := hf 3 _ rfl; have h4 := hf 4 _ rfl
  have e5 : Try.prog.cellsOf 5 = 1 := by kernel_rfl
  have e3 : Try.prog.cellsOf 3 = 1 := by kernel_rfl
  have e4 : Try.prog.cellsOf 4 = 1 := by kernel_rfl
  have e9 : Try.prog.cellsOf 9 = 1 := by kernel_rfl
  match cs, hcl, xs, hxl with
  | [q0, q1, q2, q3, q4], _, [y0, y1, y2, y3, y4], _ =>
    simp at h0 h1 h2 h3 h4
    simp only [e5, e3, e4, e9, List.take_succ_cons, List.take_zero] at h0 h1 h2 h3 h4
    obtain ⟨k, hk, _, wk⟩ := DataW.trod_int Try.underlying5 h0
    obtain ⟨m, hm, _, wm⟩ := DataW.trod_int Try.underlying3 h1
    obtain ⟨b, hb, _⟩ := DataW.trod_bool Try.underlying4 h2
    obtain ⟨s, hs, _, ws⟩ := DataW.trod_string Try.underlying9 h3
    obtain ⟨o, ho, _, wo⟩ := DataW.trod_int Try.underlying3 h4
    simp only [List.cons.injEq, and_true] at hk hm hb hs ho
    subst hk; subst hm; subst hb; subst hs; subst ho
    have bk := bounds_u8 wk; have bm := bounds_i64 wm; have bo := bounds_i64 wo
    refine ⟨⟨UInt8.ofNat k.toNat, m, b, s.data.toList, o⟩, ?_, ⟨by simp only; omega, by simp only; omega, by simp only; omega, by simp only; omega, ws⟩⟩
    simp only [LV, b8, str_of]
    rw [show ((UInt8.ofNat k.toNat).toNat : Int) = k by simp; omega]
end Go.Proofs.Ytogagcdlkhinjaa
