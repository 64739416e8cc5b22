/- How the laws' arguments are opened: slices; and what the setting up of a space with a source gives. -/
import Derived.Test.YtlgnhnjnkhnoiaaArgs
import Derived.Test.YtlgnhnjnkhnoiaaSrc
namespace Go.Proofs.Ytlgnhnjnkhnoiaa
open Go.ChangeShapes Go.WideShapes Go.ChangeAt Go.RowKit Go.Deep
set_option maxRecDepth 100000
section
variable {H : Type} {enc : TypeId × Value → H} {w : World} {r : Reach} {b0 : Nat} {v : Value} {d : DataW H} {p : List MemPlace}
theorem open_fillC {base n : Nat} {spare : Nat → Bool} {held : Bool} {cs : List Value} {y : DataW H × List MemPlace} (hy : DataW.trod enc Try.prog w base spare held n 80 cs = some y) : ∃ x : FV, cs = LF.enc x ∧ x.bytes.length ≤ 9223372036854775807 := by
  obtain ⟨xs, n', _, _, hcl, hxl, hf⟩ := DataW.trod_struct Try.underlying80 hy
  rw [show Try.prog.cellsOf 80 = 2 by kernel_rfl] at hcl
  have h0 := hf 0 _ rfl; have h1 := hf 1 _ rfl
  have e5 : Try.prog.cellsOf 5 = 1 := by kernel_rfl
  have e9 : Try.prog.cellsOf 9 = 1 := by kernel_rfl
  match cs, hcl, xs, hxl with
  | [q0, q1], _, [y0, y1], _ =>
    simp at h0 h1
    simp only [e5, e9, List.take_succ_cons, List.take_zero] at h0 h1
    obtain ⟨k, hk, _, wk⟩ := DataW.trod_int Try.underlying5 h0
    obtain ⟨s, hs, _, ws⟩ := DataW.trod_string Try.underlying9 h1
    simp only [List.cons.injEq, and_true] at hk hs
    subst hk; subst hs
    have bk := bounds_u8 wk
    refine ⟨⟨UInt8.ofNat k.toNat, s.data.toList⟩, ?_, ?_⟩
    · show _ = [b8 (UInt8.ofNat k.toNat), .string (str s.data.toList)]
      simp only [b8, str_of]
      rw [show ((UInt8.ofNat k.toNat).toNat : Int) = k by simp; omega]
    · have := ws
      rw [Lib.size_eq] at this
      exact this
theorem open_fills (hv : Value.okWide Try.prog w r b0 22 v) (h : DataW.Trod enc Try.prog w 0 (fun _ => true) true 22 v d p) :
    ∃ A n c l, v = .slice A n c ∧ Rd w w.heap.size LF A n l ∧ (∀ x ∈ l, x.bytes.length ≤ 9223372036854775807) ∧ n ≤ 9223372036854775807 := by
  obtain ⟨A, n, c, rfl⟩ := okWide_slice Try.underlying22 hv
  obtain ⟨l, hr, ho, h1, h2⟩ := open_lay (L := LF) (Ok := fun x : FV => x.bytes.length ≤ 9223372036854775807) Try.underlying22 (by kernel_rfl) (fun n cs y hy => open_fillC hy) h
  exact ⟨A, n, c, l, rfl, hr, ho, Nat.le_trans h1 h2⟩
end
theorem srcL_str (l : List FV) : ∀ x v, iget (srcL l) x = some v → ∃ s : ByteArray, v = .string s := by
  have key : ∀ (l : List FV) (m : List (Int × Value)), (∀ x v, iget m x = some v → ∃ s : ByteArray, v = .string s) → ∀ x v, iget (l.foldl srcStep m) x = some v → ∃ s : ByteArray, v = .string s := by
    intro l
    induction l with
    | nil => intro m h; exact h
    | cons a r ih =>
      intro m h
      refine ih _ fun x v hx => ?_
      unfold srcStep at hx
      rw [iget_iput] at hx
      by_cases he : x = (a.page.toNat : Int) % 64
      · rw [if_pos he] at hx; injection hx with hx; exact ⟨_, hx.symm⟩
      · rw [if_neg he] at hx; exact h x v hx
  exact key _ [] fun x v hx => by cases hx
/-- The world behind the making of a source that counts, and of a space with it. -/
def setW (W : World) (bm : Nat) : World :=
  (((W.alloc (.map #[] 0)).alloc (.cells #[.map (some bm), .map (some W.heap.size)] 30)).alloc (.cells (spc (.func (.func 12) #[.pointer (some ⟨W.heap.size + 1, 0, none⟩)] #[]) fun _ => Sl.zero) 87))
def setG (W : World) (bm : Nat) (l : List FV) : Gsrc := ⟨W.heap.size + 1, bm, W.heap.size, srcL l⟩
theorem set_sp {W : World} {bm : Nat} {l : List FV} (h : IM W bm (srcL l)) : SpA (setW W bm) (W.heap.size + 2) (some (setG W bm l)) ⟨[], fun _ => Sl.zero, fun _ => none⟩ := by
  have hlt := h.lt
  have e1 : (W.alloc (.map #[] 0)).heap.size = W.heap.size + 1 := by simp
  have hg : GAt ((W.alloc (.map #[] 0)).alloc (.cells #[.map (some bm), .map (some W.heap.size)] 30)) (setG W bm l) [] := by
    have hb := Blk.new (W.alloc (.map #[] 0)) 30 #[.map (some bm), .map (some W.heap.size)]
    rw [e1] at hb
    exact ⟨hb, (h.alloc _).alloc _, (IM.new W 0).alloc _, by show bm ≠ W.heap.size; omega, by show W.heap.size + 1 ≠ W.heap.size; omega, srcL_str l⟩
  have hb := Blk.new ((W.alloc (.map #[] 0)).alloc (.cells #[.map (some bm), .map (some W.heap.size)] 30)) 87 (spc (.func (.func 12) #[.pointer (some ⟨W.heap.size + 1, 0, none⟩)] #[]) fun _ => Sl.zero)
  rw [show ((W.alloc (.map #[] 0)).alloc (.cells #[.map (some bm), .map (some W.heap.size)] 30)).heap.size = W.heap.size + 2 by simp] at hb
  exact ⟨⟨hb, (fun g hg' => by injection hg' with e; subst e; exact hg.alloc _), ⟨fun f bs hf => by cases hf⟩⟩, (fun p hp f hf => by cases hf), fun _ p _ _ => rfl⟩
theorem set_below (W : World) (bm : Nat) : Below W.heap.size W (setW W bm) :=
  (((Below.refl _ _).alloc (Nat.le_refl _) _).alloc (by simp) _).alloc (by simp <;> omega) _
end Go.Proofs.Ytlgnhnjnkhnoiaa
