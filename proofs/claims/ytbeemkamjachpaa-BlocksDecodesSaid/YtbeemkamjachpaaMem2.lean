/- More small words on memory: a conversion of bytes to a string as a law of the walk, parts of slices. Nothing of the program itself. -/
import Derived.Test.YtbeemkamjachpaaMem
import Derived.Deep.RegionHeld3
import Derived.Deep.RegionLaw
import Derived.Deep.DeepCutAuto
namespace Go.Proofs.Ytbeemkamjachpaa
open Go.RowKit
section
variable {α : Type} {L : Lay α} {w : World} {B n : Nat} {A : Option Addr} {l : List α}
theorem Rd.sub (h : Rd w B L A n l) {i j c : Nat} (hij : i ≤ j) (hj : j ≤ n) (hc : n ≤ c) : Rd w B L (if c = i then A else A.map (·.add (i * L.size))) (j - i) ((l.drop i).take (j - i)) :=
  (h.cut (k := i) (cap := c) (by omega) hc).upto (by omega)
end
/-- 'string(b)', b a slice of bytes that reads as l, as a step of the walk. -/
theorem conv_b {P : Program} {w : World} {ops : Array Oper} {rest : List Oper} {o : Oper} {a : Act} {Q : Exit → Act → World → Prop} (hgd : o.guard = none) (src dst : TypeId) (x : Operand) (ho : o.op = .convert src dst x) {e : TypeId}
    (hs : P.underlying src = some (.slice e)) (he : P.underlying e = some (.int .u8)) (hd : P.underlying dst = some .string) {B n c : Nat} {A : Option Addr} (l : List UInt8) (hx : a.eval x = .slice A n c) (hr : Rd w B L8 A n l)
    (h : wpList P ops Q rest (a.put o.dst (.string (str l))) w) : wpList P ops Q (o :: rest) a w := by
  refine wpList_plain hgd fun K hK => ?_
  have hrun := run_conv8 hs he hd hr (c := c)
  unfold Oper.wp execOp
  simp only [ho, hx, Sem.run_bind, hrun, Result.andThen_ok, Sem.run_pure]
  exact hK _ _ h
/-- append as one step of a region that draws its order. -/
theorem step_ap {P : Program} {α : Type} {L : Lay α} (w : World) {ops : Array Oper} {o : Oper} {a : Act} {K : Act → World → Prop} {Q : Exit → Act → World → Prop} {E : Prop} (hgd : o.guard = none) (s x : Operand) {t e : TypeId} {bytes : Nat} (El : Elem P t e L.size bytes)
    (ho : o.op = .call { callee := .builtin .append, args := #[s, x], argTypes := #[t, t] })
    (base : Nat) (v : Value) (l : List α) (hs : a.eval s = v) (hown : Own w base e L v l)
    (B : Nat) (A : Option Addr) (m c : Nat) (r : List α) (hx : a.eval x = .slice A m c) (hr : Rd w B L A m r)
    (h63 : l.length + m ≤ 140737488355328) (hbytes : (l.length + m) * bytes ≤ 140737488355328) (hbase : base ≤ w.heap.size)
    (h : ∀ A' c' w', Own w' base e L (.slice A' (l.length + m) c') (l ++ r) → w.grownBy w' v.ownBlock → ((Value.slice A' (l.length + m) c').ownBlock = v.ownBlock ∨ (Value.slice A' (l.length + m) c').ownBlock = some w.heap.size) → l.length + m ≤ c' → c' ≤ maxLen → K (a.put o.dst (.slice A' (l.length + m) c')) w') :
    if Region.wanted o (yielded ops a.tmps) = true then Oper.wp P o a w K Q else E := by
  have hw : Region.wanted o (yielded ops a.tmps) = true := by simp [Region.wanted, hgd]
  rw [if_pos hw]
  obtain ⟨A', c', w', hrun, h2, h3, h4, h5, h6⟩ := run_append_any (P := P) w base t o.type e El v l hown B A m c r hr (by unfold maxLen; omega) hbytes hbase
  unfold Oper.wp execOp
  simp only [ho, resolve, invoke, builtin, Sem.run_bind, Sem.run_pure, Result.andThen_ok, List.map_toArray, List.map_cons, List.map_nil, hs, hx, hrun]
  exact h A' c' w' h2 h3 h4 h5 h6
/-- What the call's own slice is made of, its address written out. -/
theorem Own.form0 {α : Type} {L : Lay α} {w : World} {base n c : Nat} {e : TypeId} {A : Option Addr} {l : List α} (h : Own w base e L (.slice A n c) l) (hn : 0 < n) :
    ∃ g, A = some ⟨g, 0, none⟩ ∧ base ≤ g ∧ g < w.heap.size ∧ (∀ j u, (l.flatMap L.enc)[j]? = some u → w.cell? ⟨g, j, none⟩ = some u) ∧ ∀ j, w.frozen? ⟨g, j, none⟩ = false := by
  have hl := h.cap.1
  rcases h.2 with ⟨hv, h0⟩ | ⟨g, cap, cur, hv, hbb, hgg, hnc, hcm, hcs, htake⟩
  · omega
  · injection hv with e1 e2 e3
    subst e1
    obtain ⟨b, o, e4, _, hc⟩ := h.rd.form hn
    injection e4 with e4
    injection e4 with e4 e5
    subst e4; subst e5
    exact ⟨g, rfl, hbb, (Array.getElem?_eq_some_iff.1 hgg).1, fun j u hu => by simpa using hc j u hu, fun j => frozen_of_row w g j cur e hgg⟩
theorem flat_set {α : Type} (enc : α → Value) (l : List α) (k : Nat) (y : α) : (l.set k y).flatMap (fun x => [enc x]) = (l.flatMap fun x => [enc x]).set k (enc y) := by
  induction l generalizing k with
  | nil => simp
  | cons a r ih => cases k <;> simp [List.flatMap_cons, ih]
/-- A store into a byte of the call's own slice. -/
theorem Own.set8 {w : World} {base n c g : Nat} {e : TypeId} {l : List UInt8} (h : Own w base e L8 (.slice (some ⟨g, 0, none⟩) n c) l) (k : Nat) (y : UInt8) :
    Own (w.setCell ⟨g, k, none⟩ (b8 y)) base e L8 (.slice (some ⟨g, 0, none⟩) n c) (l.set k y) := by
  have hl := h.cap.1
  subst hl
  have := (World.ownsRow.stored h k (b8 y)).1
  unfold Own
  rw [List.length_set]
  have e1 : (l.set k y).flatMap L8.enc = (l.flatMap L8.enc).set k (b8 y) := flat_set b8 l k y
  rw [e1]
  exact this
end Go.Proofs.Ytbeemkamjachpaa
