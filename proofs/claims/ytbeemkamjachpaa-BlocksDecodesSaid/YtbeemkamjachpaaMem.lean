/- Small words on memory that all walks of this seat share: slices that read as lists, slices that the call itself owns, appends to them, blocks that are known whole. Nothing of the program itself. -/
import Derived.Test.YtbeemkamjachpaaRows
import Derived.WalkKit
import Derived.WalkSpells
import Derived.WalkLawsBesides
import Derived.Deep.AppendLies
import Derived.Deep.Draws
import Derived.Deep.QuietTactic
import Derived.BigQuiet
import Derived.Maps.AppendAt
import Derived.RegionTactic
import Derived.Laws.Rows
import Derived.Lib.Hide
import Derived.Laws.BitsAllLaws
import Derived.Laws.BytesArg
import Derived.Lib.ConvBytes
import Derived.Lib.MinMax
import Derived.Lib.QuietBelow
import Derived.Deep.RegionWith
import Derived.Lib.Strings
import Derived.Deep.DeepFit
import Derived.Handy
import Derived.ProofKit
import Derived.OpenShut
import Derived.ChangeOld
namespace Go.Proofs.Ytbeemkamjachpaa
open Go.RowKit

theorem below_drewN {B : Nat} {a w : World} (h : Below B a w) (n : Nat) : Below B a (w.drewN n) := ⟨h.os, h.tape, h.output, h.size, h.block⟩
/-- What holds in every world that is w with new blocks holds in the quiet walk's worlds. -/
theorem regrow {w : World} {p : World → Prop} (h : ∀ W, Below w.heap.size w W → p W) : ∀ d os, p (Go.Sort.grow (redrawn w d) os) := fun d os => h _ (below_regrown w d os)
theorem regrow_call {P : Program} {f : FuncId} {args : Array Value} {w : World} {v : Value} (h : ∀ W, Below w.heap.size w W → Calls P f args W fun e w' => e = .returned v ∧ Below W.heap.size W w') :
    ∀ d os, Calls P f args (Go.Sort.grow (redrawn w d) os) fun e w'' => e = .returned v ∧ ∃ p : Regrown, w'' = Go.Sort.grow (redrawn w p.d) p.os := fun d os => Calls.regrown_of (h _ (below_regrown w d os))
theorem block_of_add (a : Addr) (n : Nat) : (a.add n).block = a.block := by unfold Addr.add; split <;> rfl
theorem add_of_add (a : Addr) (i j : Nat) : (a.add i).add j = a.add (i + j) := by
  unfold Addr.add
  by_cases hi : i = 0 <;> by_cases hj : j = 0 <;> simp [hi, hj, Nat.add_assoc]

/-- How an element of a slice lies in cells. -/
structure Lay (α : Type) where
  size : Nat
  enc : α → List Value
  pos : 0 < size
  len : ∀ a, (enc a).length = size
  one : ∀ a, ∀ u ∈ enc a, u.oneCell' = true

section
variable {α : Type} (L : Lay α)
theorem Lay.all_len (l : List α) : (l.flatMap L.enc).length = l.length * L.size := by
  induction l with
  | nil => simp
  | cons a r ih => simp [List.flatMap_cons, L.len, ih, Nat.add_mul]; omega
theorem Lay.all_one (l : List α) : ∀ u ∈ l.flatMap L.enc, u.oneCell' = true := by
  intro u hu
  obtain ⟨a, _, h⟩ := List.mem_flatMap.1 hu
  exact L.one a u h
theorem Lay.drop (l : List α) (k : Nat) : (l.flatMap L.enc).drop (k * L.size) = (l.drop k).flatMap L.enc := by
  induction k generalizing l with
  | zero => simp
  | succ k ih =>
    cases l with
    | nil => simp
    | cons a r =>
      rw [List.flatMap_cons, Nat.add_mul, Nat.one_mul, Nat.add_comm, ← List.drop_drop, List.drop_left' (L.len a), ih]
      rfl
theorem Lay.take (l : List α) (k : Nat) : (l.flatMap L.enc).take (k * L.size) = (l.take k).flatMap L.enc := by
  induction k generalizing l with
  | zero => simp
  | succ k ih =>
    cases l with
    | nil => simp
    | cons a r =>
      rw [List.flatMap_cons, Nat.add_mul, Nat.one_mul, Nat.add_comm, List.take_add, List.take_left' (L.len a), List.drop_left' (L.len a), ih]
      rfl
theorem Lay.get (l : List α) (k j : Nat) (x : α) (hk : l[k]? = some x) (hj : j < L.size) : (l.flatMap L.enc)[k * L.size + j]? = (L.enc x)[j]? := by
  have h := L.drop l k
  rw [← List.getElem?_drop, h]
  obtain ⟨hl, hx⟩ := List.getElem?_eq_some_iff.1 hk
  rw [List.drop_eq_getElem_cons hl, List.flatMap_cons, List.getElem?_append_left (by rw [L.len]; exact hj), hx]
end

/-- The slice with address A and n elements reads as the list l; it lies below block B. -/
def Rd {α : Type} (w : World) (B : Nat) (L : Lay α) (A : Option Addr) (n : Nat) (l : List α) : Prop :=
  l.length = n ∧ (0 < n → ∃ ad, A = some ad ∧ ad.block < B ∧ ∀ j u, (l.flatMap L.enc)[j]? = some u → w.cell? (ad.add j) = some u)

section
variable {α : Type} {L : Lay α} {w w' : World} {B B' n : Nat} {A : Option Addr} {l : List α}
theorem Rd.len (h : Rd w B L A n l) : l.length = n := h.1
theorem Rd.none_ : Rd w B L A 0 ([] : List α) := ⟨rfl, fun h => absurd h (by omega)⟩
theorem Rd.keep (h : Rd w B L A n l) (hk : ∀ p : Addr, p.block < B → w'.cell? p = w.cell? p) : Rd w' B L A n l :=
  ⟨h.1, fun hn => by
    obtain ⟨ad, e, hb, hc⟩ := h.2 hn
    exact ⟨ad, e, hb, fun j u hu => (hk _ (by rw [block_of_add]; exact hb)).trans (hc j u hu)⟩⟩
theorem Rd.more (h : Rd w B L A n l) (hB : B ≤ B') : Rd w B' L A n l :=
  ⟨h.1, fun hn => by
    obtain ⟨ad, e, hb, hc⟩ := h.2 hn
    exact ⟨ad, e, by omega, hc⟩⟩
theorem Rd.below (h : Rd w B L A n l) (hb : Below B w w') : Rd w' B L A n l := h.keep fun _ hp => hb.cell hp
/-- What read as l before a call that leaves all old memory as it was reads so behind it. -/
theorem Rd.after (h : Rd w w.heap.size L A n l) (hb : Below w.heap.size w w') : Rd w' w'.heap.size L A n l := (h.below hb).more hb.size
theorem Rd.drew (h : Rd w B L A n l) : Rd w.drew B L A n l := h
theorem Rd.drewN (h : Rd w B L A n l) (k : Nat) : Rd (w.drewN k) B L A n l := h
theorem Rd.alloc (h : Rd w B L A n l) (hB : B ≤ w.heap.size) (o : Obj) : Rd (w.alloc o) B L A n l := h.keep fun p hp => World.cell?_alloc_lt w o p (by omega)
theorem Rd.setCell (h : Rd w B L A n l) {p : Addr} (hB : B ≤ p.block) (u : Value) : Rd (w.setCell p u) B L A n l :=
  h.keep fun q hq => World.cell?_setCell_other w p q u (fun e => by subst e; omega)
theorem Rd.grown (h : Rd w B L A n l) {row : Option Nat} (hg : w.grownBy w' row) (hB : B ≤ w.heap.size) (hr : ∀ g, row = some g → B ≤ g) : Rd w' B L A n l :=
  h.keep fun p hp => World.cell?_of_block (hg.block p.block (by omega) (fun e => by have := hr _ e.symm; omega))
theorem Rd.lt (h : Rd w B L A n l) (hn : 0 < n) : ∀ ad, A = some ad → ad.block < B := fun ad had => by
  obtain ⟨ad', e, hb, _⟩ := h.2 hn
  rw [had] at e; injection e with e; subst e; exact hb
theorem Rd.cut (h : Rd w B L A n l) {k cap : Nat} (hk : k ≤ n) (hc : n ≤ cap) :
    Rd w B L (if cap = k then A else A.map (·.add (k * L.size))) (n - k) (l.drop k) := by
  refine ⟨by rw [List.length_drop, h.1], fun hn => ?_⟩
  obtain ⟨ad, rfl, hb, hcell⟩ := h.2 (by omega)
  rw [if_neg (by omega)]
  refine ⟨ad.add (k * L.size), rfl, by rw [block_of_add]; exact hb, fun j u hu => ?_⟩
  rw [add_of_add]
  refine hcell _ u ?_
  rw [← hu, ← L.drop, List.getElem?_drop]
theorem Rd.upto (h : Rd w B L A n l) {k : Nat} (hk : k ≤ n) : Rd w B L A k (l.take k) := by
  refine ⟨by rw [List.length_take, h.1]; omega, fun hn => ?_⟩
  obtain ⟨ad, rfl, hb, hcell⟩ := h.2 (by omega)
  refine ⟨ad, rfl, hb, fun j u hu => hcell _ u ?_⟩
  rw [← L.take, List.getElem?_take] at hu
  split at hu
  · exact hu
  · cases hu
/-- An element's cells. -/
theorem Rd.at_ {k : Nat} (h : Rd w B L A n l) (hk : k < n) : ∃ ad x, A = some ad ∧ ad.block < B ∧ l[k]? = some x ∧ ∀ j u, (L.enc x)[j]? = some u → w.cell? (ad.add (k * L.size + j)) = some u := by
  obtain ⟨ad, e, hb, hc⟩ := h.2 (by omega)
  have hl : k < l.length := by rw [h.1]; exact hk
  have hx : l[k]? = some l[k] := List.getElem?_eq_getElem hl
  refine ⟨ad, l[k], e, hb, hx, fun j u hu => hc _ u ?_⟩
  have hj : j < L.size := by rw [← L.len l[k]]; exact (List.getElem?_eq_some_iff.1 hu).1
  rw [L.get l k j _ hx hj, hu]
end

/-- The address of a slice that is not empty, written out. -/
theorem Rd.form {α : Type} {L : Lay α} {w : World} {B n : Nat} {A : Option Addr} {l : List α} (h : Rd w B L A n l) (hn : 0 < n) : ∃ b o, A = some ⟨b, o, none⟩ ∧ b < B ∧ ∀ j u, (l.flatMap L.enc)[j]? = some u → w.cell? ⟨b, o + j, none⟩ = some u := by
  obtain ⟨ad, rfl, hb, hc⟩ := h.2 hn
  obtain ⟨b, o, sp⟩ := ad
  have hlen : 0 < (l.flatMap L.enc).length := by rw [L.all_len, h.1]; exact Nat.mul_pos hn L.pos
  have h0 := hc 0 _ (List.getElem?_eq_getElem hlen)
  have hsp : sp = none := by
    cases sp with
    | none => rfl
    | some x =>
      exfalso
      simp only [Addr.add, if_true, World.cell?] at h0
      split at h0 <;> simp at h0
  subst hsp
  refine ⟨b, o, rfl, hb, fun j u hu => ?_⟩
  have := hc j u hu
  unfold Addr.add at this
  split at this
  · rename_i h0; subst h0; exact this
  · exact this
/-- An element's cells, the address written out. -/
theorem Rd.nth {α : Type} {L : Lay α} {w : World} {B n k : Nat} {A : Option Addr} {l : List α} (h : Rd w B L A n l) (hk : k < n) :
    ∃ b o x, A = some ⟨b, o, none⟩ ∧ b < B ∧ l[k]? = some x ∧ ∀ j u, (L.enc x)[j]? = some u → w.cell? ⟨b, o + k * L.size + j, none⟩ = some u := by
  obtain ⟨b, o, e, hb, hc⟩ := h.form (by omega)
  have hl : k < l.length := by rw [h.1]; exact hk
  have hx : l[k]? = some l[k] := List.getElem?_eq_getElem hl
  refine ⟨b, o, l[k], e, hb, hx, fun j u hu => ?_⟩
  have hj : j < L.size := by rw [← L.len l[k]]; exact (List.getElem?_eq_some_iff.1 hu).1
  rw [Nat.add_assoc]
  exact hc _ u (by rw [L.get l k j _ hx hj, hu])

/-- The slice value v, made by the call itself (its blocks are numbered from base on), holds the list l. -/
def Own {α : Type} (w : World) (base : Nat) (e : TypeId) (L : Lay α) (v : Value) (l : List α) : Prop :=
  w.ownsRow base e L.size v l.length (l.flatMap L.enc)

section
variable {α : Type} {L : Lay α} {w w' : World} {base base' : Nat} {e : TypeId} {v : Value} {l : List α}
theorem Own.nil_ : Own w base e L (.slice none 0 0) ([] : List α) := World.ownsRow_nil _ _ _ _
theorem Own.alloc (h : Own w base e L v l) (o : Obj) : Own (w.alloc o) base e L v l := World.ownsRow.alloc h o
theorem Own.drew (h : Own w base e L v l) : Own w.drew base e L v l := h
theorem Own.drewN (h : Own w base e L v l) (k : Nat) : Own (w.drewN k) base e L v l := h
theorem Own.lt (h : Own w base e L v l) : ∀ k, v.ownBlock = some k → base ≤ k ∧ k < w.heap.size := World.ownsRow.lt h
theorem Own.grown {row : Option Nat} (h : Own w base e L v l) (hg : w.grownBy w' row) (hne : v.ownBlock = none ∨ v.ownBlock ≠ row) : Own w' base e L v l := World.ownsRow.kept h hg hne
theorem Own.below {B : Nat} (h : Own w base e L v l) (hb : Below B w w') (hB : w.heap.size ≤ B) : Own w' base e L v l := by
  refine ⟨h.1, ?_⟩
  rcases h.2 with hn | ⟨g, cap, cur, rfl, hbb, hgg, rest⟩
  · exact .inl hn
  · exact .inr ⟨g, cap, cur, rfl, hbb, by rw [hb.block g (by have := (Array.getElem?_eq_some_iff.1 hgg).1; omega)]; exact hgg, rest⟩
theorem Own.after (h : Own w base e L v l) (hb : Below w.heap.size w w') : Own w' base e L v l := h.below hb (Nat.le_refl _)
theorem Own.mono (h : Own w base e L v l) (hb : base' ≤ base) : Own w base' e L v l := by
  refine ⟨h.1, ?_⟩
  rcases h.2 with hn | ⟨g, cap, cur, rfl, hbb, hgg, rest⟩
  · exact .inl hn
  · exact .inr ⟨g, cap, cur, rfl, by omega, hgg, rest⟩
theorem Own.setCell (h : Own w base e L v l) {a : Addr} (ha : a.block < base) (u : Value) : Own (w.setCell a u) base e L v l := ownsRow_setCell_below h ha u
/-- The value written out; what it holds can be read. -/
theorem Own.slice (h : Own w base e L v l) : ∃ A c, v = .slice A l.length c ∧ l.length ≤ c ∧ c ≤ maxLen ∧ Rd w w.heap.size L A l.length l ∧ ∀ ad, A = some ad → base ≤ ad.block := by
  have h0 := h
  rcases h.2 with ⟨rfl, hn⟩ | ⟨g, cap, cur, rfl, hbb, hgg, hnc, hcm, hcs, htake⟩
  · have hl : l = [] := List.eq_nil_of_length_eq_zero hn
    subst hl
    exact ⟨none, 0, rfl, Nat.le_refl _, Nat.zero_le _, Rd.none_, fun _ h => by cases h⟩
  · refine ⟨_, cap, rfl, hnc, hcm, ⟨rfl, fun _ => ⟨⟨g, 0, none⟩, rfl, (Array.getElem?_eq_some_iff.1 hgg).1, World.ownsRow.cells h0 (g := g) rfl⟩⟩, fun ad had => ?_⟩
    injection had with had
    subst had
    exact hbb
theorem Own.sl (h : Own w base e L v l) : ∃ A n c, v = .slice A n c := by
  obtain ⟨A, c, hv, _⟩ := h.slice
  exact ⟨A, _, c, hv⟩
theorem Own.rd {A : Option Addr} {n c : Nat} (h : Own w base e L (.slice A n c) l) : Rd w w.heap.size L A n l := by
  obtain ⟨A', c', hv, _, _, hr, _⟩ := h.slice
  injection hv with h1 h2 h3
  subst h1; subst h2; exact hr
theorem Own.cap {A : Option Addr} {n c : Nat} (h : Own w base e L (.slice A n c) l) : l.length = n ∧ n ≤ c ∧ c ≤ maxLen := by
  obtain ⟨A', c', hv, h1, h2, _, _⟩ := h.slice
  injection hv with e1 e2 e3
  subst e3; subst e2; exact ⟨rfl, h1, h2⟩
theorem Own.from_ {A : Option Addr} {n c : Nat} (h : Own w base e L (.slice A n c) l) : ∀ k, (Value.slice A n c).ownBlock = some k → base ≤ k := fun k hk => (World.ownsRow.lt h k hk).1
end

/-- Block g is just these cells of element type t, none of them frozen. -/
def Blk (w : World) (g : Nat) (t : TypeId) (cs : Array Value) : Prop := w.heap[g]? = some (.cells cs t (0, 0))
section
variable {w w' : World} {g : Nat} {t : TypeId} {cs : Array Value}
theorem Blk.lt (h : Blk w g t cs) : g < w.heap.size := by
  rcases Nat.lt_or_ge g w.heap.size with hlt | hge
  · exact hlt
  · unfold Blk at h; rw [Array.getElem?_eq_none hge] at h; cases h
theorem Blk.cell (h : Blk w g t cs) (i : Nat) : w.cell? ⟨g, i, none⟩ = cs[i]? := cell_of_row w g i cs t (0, 0) h
theorem Blk.frozen (h : Blk w g t cs) (i : Nat) : w.frozen? ⟨g, i, none⟩ = false := by
  unfold Blk at h
  simp [World.frozen?, h]
theorem Blk.new (w : World) (t : TypeId) (cs : Array Value) : Blk (w.alloc (.cells cs t)) w.heap.size t cs := heap_alloc_new w _
theorem Blk.drew (h : Blk w g t cs) : Blk w.drew g t cs := h
theorem Blk.drewN (h : Blk w g t cs) (n : Nat) : Blk (w.drewN n) g t cs := h
theorem Blk.alloc (h : Blk w g t cs) (o : Obj) : Blk (w.alloc o) g t cs := (Below.heap_alloc w o g h.lt).trans h
theorem Blk.set_ (h : Blk w g t cs) (i : Nat) (u : Value) : Blk (w.setCell ⟨g, i, none⟩ u) g t (cs.setIfInBounds i u) := by
  unfold Blk at h ⊢
  simp [World.setCell, Array.getElem?_modify, h]
theorem Blk.far (h : Blk w g t cs) {p : Addr} (hp : g ≠ p.block) (u : Value) : Blk (w.setCell p u) g t cs := (Below.heap_setCell w p u g hp).trans h
theorem Blk.below {B : Nat} (h : Blk w g t cs) (hb : Below B w w') (hg : g < B) : Blk w' g t cs := (hb.block g hg).trans h
theorem Blk.after (h : Blk w g t cs) (hb : Below w.heap.size w w') : Blk w' g t cs := h.below hb h.lt
theorem Blk.grown {row : Option Nat} (h : Blk w g t cs) (hb : w.grownBy w' row) (hg : some g ≠ row) : Blk w' g t cs := (hb.block g h.lt hg).trans h
theorem Blk.ne_ {g' : Nat} {t' : TypeId} {cs' : Array Value} (h : Blk w g t cs) (h' : Blk w g' t' cs') (hne : t ≠ t') : g ≠ g' := by
  rintro rfl
  unfold Blk at h h'
  rw [h] at h'
  injection h' with h'
  injection h' with _ ht
  exact hne ht
theorem Blk.own_ne {α : Type} {L : Lay α} {base : Nat} {e : TypeId} {v : Value} {l : List α} (hg : Blk w g t cs) (h : Own w base e L v l) (hne : e ≠ t) : some g ≠ v.ownBlock := by
  rcases h.2 with ⟨rfl, _⟩ | ⟨g', cap, cur, rfl, _, hh, _⟩
  · simp [Value.ownBlock]
  · intro he
    have : g = g' := by simpa [Value.ownBlock] using he
    subst this
    exact Blk.ne_ (t := e) hh hg hne rfl
end

/-- w' is w with new blocks, and with changes to the blocks of S alone. -/
structure Keep (S : Nat → Prop) (w w' : World) : Prop where
  os : w'.os = w.os
  tape : w'.tape = w.tape
  output : w'.output = w.output
  size : w.heap.size ≤ w'.heap.size
  block : ∀ k, k < w.heap.size → ¬ S k → w'.heap[k]? = w.heap[k]?
section
variable {S S' : Nat → Prop} {a w w' : World}
theorem Keep.refl (S : Nat → Prop) (w : World) : Keep S w w := ⟨rfl, rfl, rfl, Nat.le_refl _, fun _ _ _ => rfl⟩
theorem Keep.trans (h : Keep S a w) (k : Keep S' w w') (hs : ∀ i, i < a.heap.size → S' i → S i) : Keep S a w' :=
  ⟨k.os.trans h.os, k.tape.trans h.tape, k.output.trans h.output, Nat.le_trans h.size k.size, fun i hi hn => (k.block i (Nat.lt_of_lt_of_le hi h.size) (fun hx => hn (hs i hi hx))).trans (h.block i hi hn)⟩
theorem Keep.mono (h : Keep S w w') (hs : ∀ i, i < w.heap.size → S i → S' i) : Keep S' w w' := ⟨h.os, h.tape, h.output, h.size, fun i hi hn => h.block i hi fun hx => hn (hs i hi hx)⟩
theorem Keep.of_below (h : Below w.heap.size w w') : Keep S w w' := ⟨h.os, h.tape, h.output, h.size, fun i hi _ => h.block i hi⟩
theorem Keep.below (h : Keep S w w') {B : Nat} (hB : B ≤ w.heap.size) (hs : ∀ i, i < B → ¬ S i) : Below B w w' := ⟨h.os, h.tape, h.output, h.size, fun i hi => h.block i (by omega) (hs i hi)⟩
theorem Keep.after (h : Keep S a w) (hb : Below w.heap.size w w') : Keep S a w' := h.trans (Keep.of_below (S := fun _ => False) hb) fun _ _ hx => hx.elim
theorem Keep.alloc (h : Keep S a w) (o : Obj) : Keep S a (w.alloc o) := h.after ((Below.refl _ _).alloc (Nat.le_refl _) o)
theorem Keep.drew (h : Keep S a w) : Keep S a w.drew := ⟨h.os, h.tape, h.output, h.size, h.block⟩
theorem Keep.drewN (h : Keep S a w) (n : Nat) : Keep S a (w.drewN n) := ⟨h.os, h.tape, h.output, h.size, h.block⟩
theorem Keep.setCell (h : Keep S a w) {p : Addr} (hp : p.block < a.heap.size → S p.block) (u : Value) : Keep S a (w.setCell p u) :=
  ⟨h.os, h.tape, h.output, by simpa [World.setCell] using h.size, fun i hi hn => (Below.heap_setCell w p u i (fun e => hn (e ▸ hp (e ▸ hi)))).trans (h.block i hi hn)⟩
theorem Keep.grown {row : Option Nat} (h : Keep S a w) (hg : w.grownBy w' row) (hr : ∀ k, row = some k → k < a.heap.size → S k) : Keep S a w' :=
  ⟨hg.os.trans h.os, hg.tape.trans h.tape, hg.output.trans h.output, Nat.le_trans h.size hg.size, fun i hi hn => (hg.block i (Nat.lt_of_lt_of_le hi h.size) (fun e => hn (hr i e.symm hi))).trans (h.block i hi hn)⟩
theorem Rd.kept {α : Type} {L : Lay α} {B n : Nat} {A : Option Addr} {l : List α} (h : Rd w B L A n l) (hk : Keep S w w') (hB : B ≤ w.heap.size) (hs : 0 < n → ∀ ad, A = some ad → ¬ S ad.block) : Rd w' B L A n l :=
  ⟨h.1, fun hn => by
    obtain ⟨ad, e, hb, hc⟩ := h.2 hn
    exact ⟨ad, e, hb, fun j u hu => (World.cell?_of_block (by rw [block_of_add]; exact hk.block _ (by omega) (hs hn ad e))).trans (hc j u hu)⟩⟩
theorem Own.kept {α : Type} {L : Lay α} {base : Nat} {e : TypeId} {v : Value} {l : List α} (h : Own w base e L v l) (hk : Keep S w w') (hs : ∀ k, v.ownBlock = some k → ¬ S k) : Own w' base e L v l := by
  refine ⟨h.1, ?_⟩
  rcases h.2 with hn | ⟨g, cap, cur, rfl, hbb, hgg, rest⟩
  · exact .inl hn
  · exact .inr ⟨g, cap, cur, rfl, hbb, by rw [hk.block g (Array.getElem?_eq_some_iff.1 hgg).1 (hs g rfl)]; exact hgg, rest⟩
theorem Blk.kept {g : Nat} {t : TypeId} {cs : Array Value} (h : Blk w g t cs) (hk : Keep S w w') (hs : ¬ S g) : Blk w' g t cs := (hk.block g h.lt hs).trans h
end

/-- The element type's row of the program's table. -/
structure Elem (P : Program) (t e : TypeId) (size bytes : Nat) : Prop where
  ht : P.underlying t = some (.slice e)
  info : ∃ i z, P.info? e = some i ∧ i.zero = some z ∧ i.size = size ∧ i.bytes = bytes ∧ z.cells.size = size
theorem Elem.of {P : Program} {t e : TypeId} {z : Value} {size bytes : Nat} (ht : P.underlying t = some (.slice e)) (hi : (P.info? e).map (fun i => (i.zero, i.size, i.bytes)) = some (some z, size, bytes)) (hz : z.cells.size = size) : Elem P t e size bytes := by
  obtain ⟨i, h1, h2, h3, h4⟩ := info_parts hi
  exact ⟨ht, i, z, h1, h2, h3, h4, hz⟩

section
variable {P : Program} {α : Type} {L : Lay α} (w : World)
theorem run_append_of_nil (base : Nat) (t ty e : TypeId) (i : TypeInfo) (size : Nat) (ht : P.underlying t = some (.slice e)) (hi : P.info? e = some i)
    (v : Value) (n : Nat) (xs : List Value) (hown : w.ownsRow base e size v n xs) (c : Nat) : (Builtin.append_ #[t, t] ty #[v, .slice none 0 c]).run P w = .ok v w := by
  rcases hown.2 with ⟨rfl, rfl⟩ | ⟨g, cap, cur, rfl, _, _, hnc, _⟩
  · simp [Builtin.append_, run_underlying ht, sizeOf, typeInfo, hi, Builtin.lenOf, Builtin.firstCells]
  · simp [Builtin.append_, run_underlying ht, sizeOf, typeInfo, hi, Builtin.lenOf, Builtin.firstCells, hnc, storeCells]

theorem run_append_any (base : Nat) (t ty e : TypeId) {bytes : Nat} (E : Elem P t e L.size bytes)
    (v : Value) (l : List α) (hown : Own w base e L v l)
    (B : Nat) (A : Option Addr) (m c : Nat) (r : List α) (hr : Rd w B L A m r)
    (h63 : l.length + m ≤ maxLen) (hbytes : (l.length + m) * bytes ≤ 140737488355328) (hbase : base ≤ w.heap.size) :
    ∃ A' c' w', (Builtin.append_ #[t, t] ty #[v, .slice A m c]).run P w = .ok (.slice A' (l.length + m) c') w' ∧ Own w' base e L (.slice A' (l.length + m) c') (l ++ r) ∧ w.grownBy w' v.ownBlock ∧
      ((Value.slice A' (l.length + m) c').ownBlock = v.ownBlock ∨ (Value.slice A' (l.length + m) c').ownBlock = some w.heap.size) ∧ l.length + m ≤ c' ∧ c' ≤ maxLen := by
  obtain ⟨i, z, hi, hz, hsize, hby, hzs⟩ := E.info
  have close : ∀ (v' : Value) (w' : World), Own w' base e L v' (l ++ r) → ∃ A' c', v' = .slice A' (l.length + m) c' ∧ l.length + m ≤ c' ∧ c' ≤ maxLen := fun v' w' h => by
    obtain ⟨A', c', hv, h1, h2, _, _⟩ := h.slice
    rw [List.length_append, hr.1] at hv h1
    exact ⟨A', c', hv, h1, h2⟩
  have key : ∃ v' w', (Builtin.append_ #[t, t] ty #[v, .slice A m c]).run P w = .ok v' w' ∧ Own w' base e L v' (l ++ r) ∧ w.grownBy w' v.ownBlock ∧ (v'.ownBlock = v.ownBlock ∨ v'.ownBlock = some w.heap.size) := by
    by_cases hA : A = none
    · subst hA
      have hm : m = 0 := by
        rcases Nat.eq_zero_or_pos m with h0 | h0
        · exact h0
        · obtain ⟨ad, h, _⟩ := hr.2 h0
          cases h
      subst hm
      have hn : r = [] := List.eq_nil_of_length_eq_zero hr.1
      subst hn
      exact ⟨v, w, run_append_of_nil w base t ty e i L.size E.ht hi v _ _ hown c, by simpa using hown, World.grownBy.refl w _, .inl rfl⟩
    · obtain ⟨ad, rfl⟩ := Option.ne_none_iff_exists'.1 hA
      have hcells : ∀ j u, (r.flatMap L.enc)[j]? = some u → w.cell? (ad.add j) = some u := by
        intro j u hu
        rcases Nat.eq_zero_or_pos m with h0 | h0
        · subst h0
          have hn : r = [] := List.eq_nil_of_length_eq_zero hr.1
          subst hn
          simp at hu
        · obtain ⟨ad', h, _, hc⟩ := hr.2 h0
          injection h with h
          subst h
          exact hc j u hu
      obtain ⟨v', w', hrun, h2, h3, _, h5⟩ := run_append_own_at (P := P) w base t ty e i z L.size bytes E.ht hi hz hsize hby hzs L.pos v l.length (l.flatMap L.enc) hown ad m c (r.flatMap L.enc) (by rw [L.all_len, hr.1]) hcells (L.all_one r) h63 hbytes hbase
      refine ⟨v', w', hrun, ?_, h3, h5⟩
      unfold Own
      rw [List.length_append, hr.1, List.flatMap_append]
      exact h2
  obtain ⟨v', w', hrun, h2, h3, h4⟩ := key
  obtain ⟨A', c', rfl, h5, h6⟩ := close v' w' h2
  exact ⟨A', c', w', hrun, h2, h3, h4, h5, h6⟩

/-- 'out = append(out, x...)', out the call's own, x whatever slice. -/
theorem ap_any {ops : Array Oper} {rest : List Oper} {o : Oper} {a : Act} {Q : Exit → Act → World → Prop} (hgd : o.guard = none) (s x : Operand) {t e : TypeId} {bytes : Nat} (E : Elem P t e L.size bytes)
    (ho : o.op = .call { callee := .builtin .append, args := #[s, x], argTypes := #[t, t] })
    (base : Nat) (v : Value) (l : List α) (hs : a.eval s = v) (hown : Own w base e L v l)
    (B : Nat) (A : Option Addr) (m c : Nat) (r : List α) (hx : a.eval x = .slice A m c) (hr : Rd w B L A m r)
    (h63 : l.length + m ≤ 140737488355328) (hbytes : (l.length + m) * bytes ≤ 140737488355328) (hbase : base ≤ w.heap.size)
    (h : ∀ A' c' w', Own w' base e L (.slice A' (l.length + m) c') (l ++ r) → w.grownBy w' v.ownBlock → ((Value.slice A' (l.length + m) c').ownBlock = v.ownBlock ∨ (Value.slice A' (l.length + m) c').ownBlock = some w.heap.size) → l.length + m ≤ c' → c' ≤ maxLen → wpList P ops Q rest (a.put o.dst (.slice A' (l.length + m) c')) w') : wpList P ops Q (o :: rest) a w := by
  refine wpList_plain hgd fun K hK => ?_
  obtain ⟨A', c', w', hrun, h2, h3, h4, h5, h6⟩ := run_append_any (P := P) w base t o.type e E v l hown B A m c r hr (by unfold maxLen; omega) hbytes hbase
  unfold Oper.wp execOp
  simp only [ho, resolve, invoke, builtin, Sem.run_bind, Sem.run_pure, Result.andThen_ok, List.map_toArray, List.map_cons, List.map_nil, hs, hx, hrun]
  exact hK _ _ (h A' c' w' h2 h3 h4 h5 h6)

/-- 'out = append(out, x)', one element, which lies in the new block that the call of append makes for it. -/
theorem ap_one {ops : Array Oper} {rest : List Oper} {o : Oper} {a : Act} {Q : Exit → Act → World → Prop} (hgd : o.guard = none) (s x : Operand) {t e : TypeId} {bytes : Nat} (E : Elem P t e L.size bytes)
    (ho : o.op = .call { callee := .builtin .append, args := #[s, x], argTypes := #[t, t] })
    (base : Nat) (v : Value) (l : List α) (hs : a.eval s = v) (hown : Own w base e L v l)
    (ad : Addr) (c : Nat) (y : α) (hx : a.eval x = .slice (some ad) 1 c) (hy : ∀ j u, (L.enc y)[j]? = some u → w.cell? (ad.add j) = some u)
    (h63 : l.length + 1 ≤ 140737488355328) (hbytes : (l.length + 1) * bytes ≤ 140737488355328) (hbase : base ≤ w.heap.size)
    (h : ∀ A' c' w', Own w' base e L (.slice A' (l.length + 1) c') (l ++ [y]) → w.grownBy w' v.ownBlock → ((Value.slice A' (l.length + 1) c').ownBlock = v.ownBlock ∨ (Value.slice A' (l.length + 1) c').ownBlock = some w.heap.size) → l.length + 1 ≤ c' → c' ≤ maxLen → wpList P ops Q rest (a.put o.dst (.slice A' (l.length + 1) c')) w') : wpList P ops Q (o :: rest) a w :=
  ap_any w hgd s x E ho base v l hs hown (ad.block + 1) (some ad) 1 c [y] hx ⟨rfl, fun _ => ⟨ad, rfl, by omega, by simpa using hy⟩⟩ h63 hbytes hbase h
end

/-- A byte as a cell's value. -/
def b8 (c : UInt8) : Value := .int .u8 (c.toNat : Int)
def L8 : Lay UInt8 := { size := 1, enc := fun c => [b8 c], pos := by decide, len := fun _ => rfl, one := fun a u hu => by simp at hu; subst hu; rfl }
theorem L8_all (l : List UInt8) : l.flatMap L8.enc = l.map b8 := by
  induction l with
  | nil => rfl
  | cons a r ih => rw [List.flatMap_cons, ih]; rfl
theorem u8_lt (c : UInt8) : c.toNat < 256 := c.toNat_lt
theorem Rd.byte {w : World} {B n k : Nat} {A : Option Addr} {l : List UInt8} (h : Rd w B L8 A n l) (hk : k < n) :
    ∃ ad, A = some ad ∧ ad.block < B ∧ w.cell? (ad.add k) = some (.int .u8 ((l.getD k 0).toNat : Int)) ∧ k < l.length := by
  obtain ⟨ad, x, e, hb, hx, hc⟩ := h.at_ hk
  have hl : k < l.length := by rw [h.1]; exact hk
  refine ⟨ad, e, hb, ?_, hl⟩
  have := hc 0 (b8 x) rfl
  simp only [L8, Nat.mul_one, Nat.add_zero] at this
  rw [this, List.getD_eq_getElem?_getD, hx]
  rfl
/-- A slice of bytes that came in: it reads as a list of bytes. -/
theorem Rd.of_row {w : World} {a : Option Addr} {len cap : Nat} {zs : List Int}
    (h : (a = none ∧ len = 0 ∧ cap = 0 ∧ zs = []) ∨ ∃ x, a = some x ∧ len ≤ cap ∧ cap ≤ maxLen ∧ zs.length = cap ∧ (∀ i, i < zs.length → w.cell? (x.add i) = some (.int .u8 (zs.getD i 0))) ∧ ∀ n ∈ zs, (Lit.int .u8 n).wf = true) :
    ∃ l, Rd w w.heap.size L8 a len l ∧ len ≤ cap ∧ cap ≤ maxLen := by
  rcases h with ⟨rfl, rfl, rfl, rfl⟩ | ⟨x, rfl, hl, hm, hz, hc, hwf⟩
  · exact ⟨[], Rd.none_, Nat.le_refl _, Nat.zero_le _⟩
  · refine ⟨(zs.take len).map fun n => UInt8.ofNat n.toNat, ⟨by simp; omega, fun hn => ⟨x, rfl, ?_, ?_⟩⟩, hl, hm⟩
    · have := hc 0 (by omega)
      have hb : (x.add 0).block < w.heap.size := by
        rcases Nat.lt_or_ge (x.add 0).block w.heap.size with h | h
        · exact h
        · simp [World.cell?, Array.getElem?_eq_none h] at this
      rwa [block_of_add] at hb
    · intro j u hu
      rw [L8_all, List.map_map] at hu
      obtain ⟨hj, hx⟩ := List.getElem?_eq_some_iff.1 hu
      simp at hj hx
      rw [hc j (by omega), ← hx]
      have hw := hwf (zs[j]'(by omega)) (List.getElem_mem _)
      have hb := bounds_u8 hw
      simp only [b8, List.getD_eq_getElem?_getD, List.getElem?_eq_getElem (show j < zs.length by omega), Option.getD_some]
      congr 2
      simp
      omega
/-- An argument of a law that is a slice of bytes, opened. -/
theorem open_bytes {H : Type} {enc : TypeId × Value → H} {P : Program} {w : World} {t e : TypeId} {a : Option Addr} {len cap : Nat} {d : DataW H} {p : List MemPlace} (ht : P.underlying t = some (.slice e)) (he : P.underlying e = some (.int .u8)) (hc : P.cellsOf e = 1)
    (h : DataW.Trod enc P w 0 (fun _ => true) true t (.slice a len cap) d p) : ∃ l, Rd w w.heap.size L8 a len l ∧ len ≤ cap ∧ cap ≤ maxLen := by
  obtain ⟨fuel, hf⟩ := h
  rcases Go.ChangeShapes.open_ints ht he hc hf with ⟨hcs, _⟩ | ⟨x, l, c, zs, hcs, _, hl, hm, hz, _, hcell, hwz⟩
  · simp [Value.cells] at hcs
    obtain ⟨rfl, rfl, rfl⟩ := hcs
    exact Rd.of_row (.inl ⟨rfl, rfl, rfl, rfl⟩)
  · simp [Value.cells] at hcs
    obtain ⟨rfl, rfl, rfl⟩ := hcs
    exact Rd.of_row (.inr ⟨_, rfl, hl, hm, by simpa using hz, hcell, hwz⟩)
/-- The string with these bytes. -/
def str (l : List UInt8) : ByteArray := ⟨l.toArray⟩
theorem str_size (l : List UInt8) : (str l).size = l.length := rfl
theorem str_append (a b : List UInt8) : str a ++ str b = str (a ++ b) := by apply ByteArray.ext; simp [str]
theorem str_extract (l : List UInt8) (i j : Nat) : (str l).extract i j = str ((l.drop i).take (j - i)) := by apply ByteArray.ext; simp [str, List.take_drop]
theorem str_get (l : List UInt8) (k : Nat) (h : k < (str l).size) : (str l)[k]'h = l.getD k 0 := by
  have h' : k < l.length := h
  rw [List.getD_eq_getElem?_getD, List.getElem?_eq_getElem h']; rfl
theorem str_inj {a b : List UInt8} : (str a = str b) = (a = b) := by
  apply propext; constructor
  · intro h; have := congrArg (fun x : ByteArray => x.data.toList) h; simpa [str] using this
  · intro h; rw [h]
theorem str_toList (l : List UInt8) : (str l).toList = l := (Lib.toList_data _).trans rfl
theorem str_of (s : ByteArray) : str s.data.toList = s := by cases s; rfl

/-- 'string(b)', b a slice of bytes that reads as l. -/
theorem run_conv8 {P : Program} {w : World} {src dst e : TypeId} (hs : P.underlying src = some (.slice e)) (he : P.underlying e = some (.int .u8)) (hd : P.underlying dst = some .string)
    {B n c : Nat} {A : Option Addr} {l : List UInt8} (h : Rd w B L8 A n l) : (convert src dst (.slice A n c)).run P w = .ok (.string (str l)) w := by
  rw [run_convert_bytes_string w src dst e _ n c hs he hd]
  rcases Nat.eq_zero_or_pos n with h0 | h0
  · subst h0
    have hl : l = [] := List.eq_nil_of_length_eq_zero h.1
    subst hl
    cases A with
    | none => simp [Conv.bytesToString, str]; rfl
    | some ad =>
      have hl : (loadCells ad 0).run P w = .ok (([] : List Int).map (Value.int .u8)).toArray w := by
        have := run_loadCells_list (P := P) w ad [] (fun j v hj => by simp at hj)
        simpa using this
      rw [run_bytesToString w _ 0 c [] hl]
      rfl
  · obtain ⟨ad, rfl, _, hc⟩ := h.2 h0
    have hl : (loadCells ad n).run P w = .ok ((l.map fun c => (c.toNat : Int)).map (Value.int .u8)).toArray w := by
      have := run_loadCells_list (P := P) w ad (l.flatMap L8.enc) hc
      rw [L8_all] at this
      have hm : (l.map fun c => (c.toNat : Int)).map (Value.int .u8) = l.map b8 := by rw [List.map_map]; rfl
      rw [hm]
      simpa [h.1] using this
    rw [run_bytesToString w _ n c _ hl, foldl_push_bytes]
    congr 1
    simp [str, ByteArray.empty, ByteArray.emptyWithCapacity, List.map_map]
    show l.map (fun c => UInt8.ofNat ((c.toNat : Int).toNat)) = l
    simp

theorem run_convert_string_bytes_ {P : Program} (w : World) (src dst e : TypeId) (l : List UInt8) (hs : P.underlying src = some .string) (hd : P.underlying dst = some (.slice e)) (he : P.underlying e = some (.int .u8)) :
    (convert src dst (.string (str l))).run P w = .ok (.slice (some ⟨w.heap.size, 0, none⟩) l.length (grownCap w (str l).size 0 e)) (Lib.bytesWorld w e (str l)) := Lib.run_convert_string_bytes w src dst e (str l) hs hd he
theorem conv_rd (w : World) (e : TypeId) (l : List UInt8) : Rd (Lib.bytesWorld w e (str l)) (Lib.bytesWorld w e (str l)).heap.size L8 (some ⟨w.heap.size, 0, none⟩) l.length l := by
  refine ⟨rfl, fun _ => ⟨_, rfl, by rw [Lib.bytesWorld_size]; exact Nat.lt_succ_self _, fun j u hu => ?_⟩⟩
  rw [L8_all] at hu
  have hj : j < l.length := by have := (List.getElem?_eq_some_iff.1 hu).1; simpa using this
  have hadd : (⟨w.heap.size, 0, none⟩ : Addr).add j = ⟨w.heap.size, j, none⟩ := by unfold Addr.add; split <;> simp_all
  rw [hadd, Lib.bytesWorld_cell w e (str l) j hj, ← hu]
  simp [List.getElem?_eq_getElem hj, b8, str, List.getD]
theorem conv_below (w : World) (e : TypeId) (s : ByteArray) : Below w.heap.size w (Lib.bytesWorld w e s) := by
  refine ⟨?_, ?_, ?_, by rw [Lib.bytesWorld_size]; omega, fun k hk => Lib.bytesWorld_at_old w e s k hk⟩
  all_goals simp only [Lib.bytesWorld, World.freeze]; split <;> rfl
/-- '[]byte(s)': a new slice that reads as the string's bytes. -/
theorem conv_s {P : Program} {w : World} {ops : Array Oper} {rest : List Oper} {o : Oper} {a : Act} {Q : Exit → Act → World → Prop} (hgd : o.guard = none) (src dst : TypeId) (x : Operand) (ho : o.op = .convert src dst x) {e : TypeId}
    (hs : P.underlying src = some .string) (hd : P.underlying dst = some (.slice e)) (he : P.underlying e = some (.int .u8)) (l : List UInt8) (hx : a.eval x = .string (str l))
    (h : ∀ A c w', Rd w' w'.heap.size L8 A l.length l → (∀ ad, A = some ad → w.heap.size ≤ ad.block) → Below w.heap.size w w' → wpList P ops Q rest (a.put o.dst (.slice A l.length c)) w') : wpList P ops Q (o :: rest) a w := by
  refine wpList_plain hgd fun K hK => ?_
  have hrun := run_convert_string_bytes_ w src dst e l hs hd he
  unfold Oper.wp execOp
  simp only [ho, hx, Sem.run_bind, hrun, Result.andThen_ok, Sem.run_pure]
  exact hK _ _ (h _ _ _ (conv_rd w e l) (fun ad had => by injection had with had; subst had; exact Nat.le_refl _) (conv_below w e (str l)))
/-- The cells of a block that has just been laid. -/
theorem new_at {w : World} {e : TypeId} {cs : Array Value} {ys : List Value} (h : cs.toList = ys) : ∀ j u, ys[j]? = some u → (w.alloc (.cells cs e)).cell? ((⟨w.heap.size, 0, none⟩ : Addr).add j) = some u := by
  intro j u hu
  subst h
  have hadd : (⟨w.heap.size, 0, none⟩ : Addr).add j = ⟨w.heap.size, j, none⟩ := by unfold Addr.add; split <;> simp_all
  rw [hadd, cell_of_row _ _ _ cs e (0, 0) (heap_alloc_new w _)]
  simpa using hu
/-- A slice over a block that has just been laid. -/
theorem new_own {α : Type} {L : Lay α} {w : World} {base : Nat} {e : TypeId} {cs : Array Value} {l : List α} (hb : base ≤ w.heap.size) (hm : l.length ≤ maxLen) (h : cs.toList = l.flatMap L.enc) :
    Own (w.alloc (.cells cs e)) base e L (.slice (some ⟨w.heap.size, 0, none⟩) l.length l.length) l := by
  have := World.ownsRow_lit (base := base) (e := e) (size := L.size) w cs l.length hb hm (by have := congrArg List.length h; rw [L.all_len] at this; simpa using this)
  rw [h] at this
  exact this
theorem Own.belowGrown {α : Type} {L : Lay α} {w wr w' : World} {B base : Nat} {e : TypeId} {v : Value} {l : List α} (hown : Own wr base e L v l) (hb : Below B w wr) (hB : B ≤ wr.heap.size) (hBb : B ≤ base) (hg : wr.grownBy w' v.ownBlock) : Below B w w' :=
  hb.grown hg hB fun k hk => Nat.le_trans hBb (hown.lt k hk).1
theorem ret3 {k1 k2 k3 : IntKind} {a b c a' b' c' : Int} (h1 : a = a') (h2 : b = b') (h3 : c = c') :
    Ending.returned (.tuple #[.int k1 a, .int k2 b, .int k3 c]) = Ending.returned (.tuple #[.int k1 a', .int k2 b', .int k3 c']) := by subst h1; subst h2; subst h3; rfl
theorem ret2 {k1 k2 : IntKind} {a b a' b' : Int} (h1 : a = a') (h2 : b = b') : Ending.returned (.tuple #[.int k1 a, .int k2 b]) = Ending.returned (.tuple #[.int k1 a', .int k2 b']) := by subst h1; subst h2; rfl
theorem ret1 {k : IntKind} {a a' : Int} (h : a = a') : Ending.returned (.int k a) = Ending.returned (.int k a') := by rw [h]
theorem retb {a a' : Bool} (h : a = a') : Ending.returned (.bool a) = Ending.returned (.bool a') := by rw [h]
theorem bcell {W w1 : World} (hb : Below W.heap.size W w1) : (∀ b o, b < W.heap.size → w1.cell? ⟨b, o, none⟩ = W.cell? ⟨b, o, none⟩) ∧ (∀ b o, b < W.heap.size → w1.frozen? ⟨b, o, none⟩ = W.frozen? ⟨b, o, none⟩) :=
  ⟨fun b o h => hb.cell (p := ⟨b, o, none⟩) h, fun b o h => hb.frozen (p := ⟨b, o, none⟩) h⟩
/-- A bool by its own name, that the walk does not take apart. -/
def tst (p : Prop) [Decidable p] : Bool := decide p
theorem tst_true {p : Prop} [Decidable p] (h : p) : tst p = true := by simp [tst, h]
theorem tst_false {p : Prop} [Decidable p] (h : ¬ p) : tst p = false := by simp [tst, h]
end Go.Proofs.Ytbeemkamjachpaa
