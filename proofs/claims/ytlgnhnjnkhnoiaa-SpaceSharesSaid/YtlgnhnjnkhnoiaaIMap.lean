/- Maps with integer keys (kind i64), as association lists in the order of their making. Nothing of the program itself. -/
import Derived.Test.YtlgnhnjnkhnoiaaLits
import Derived.RangeFuncOwn
namespace Go.Proofs.Ytlgnhnjnkhnoiaa
open Go.RowKit
def ents (l : List (Int × Value)) (es : List MapEntry) : Prop := es.map (fun e => (e.key, e.val)) = l.map fun x => (Value.int .i64 x.1, x.2)
def iget : List (Int × Value) → Int → Option Value
  | [], _ => none
  | (y, u) :: r, x => if x = y then some u else iget r x
def iput : List (Int × Value) → Int → Value → List (Int × Value)
  | [], x, v => [(x, v)]
  | (y, u) :: r, x, v => if x = y then (y, v) :: r else (y, u) :: iput r x v
theorem iget_iput (l : List (Int × Value)) (x y : Int) (v : Value) : iget (iput l x v) y = if y = x then some v else iget l y := by
  induction l with
  | nil => simp only [iput, iget]
  | cons a r ih =>
    obtain ⟨z, u⟩ := a
    simp only [iput]
    by_cases h : x = z
    · subst h
      rw [if_pos rfl]
      simp only [iget]
      by_cases h2 : y = x
      · rw [if_pos h2, if_pos h2]
      · rw [if_neg h2, if_neg h2, if_neg h2]
    · rw [if_neg h]
      simp only [iget, ih]
      by_cases h2 : y = z
      · subst h2; rw [if_pos rfl, if_neg (fun e => h e.symm), if_pos rfl]
      · rw [if_neg h2, if_neg h2]
theorem iput_len (l : List (Int × Value)) (x : Int) (v : Value) : (iput l x v).length = if (iget l x).isSome then l.length else l.length + 1 := by
  induction l with
  | nil => rfl
  | cons a r ih =>
    obtain ⟨z, u⟩ := a
    simp only [iput, iget]
    by_cases h : x = z
    · simp only [if_pos h]; rfl
    · simp only [if_neg h, List.length_cons, ih]
      split <;> rfl
/-- Block b is a map that reads as l. -/
def IM (W : World) (b : Nat) (l : List (Int × Value)) : Prop := ∃ es clk, W.heap[b]? = some (.map es clk) ∧ ents l es.toList
theorem find_none (x : Int) : ∀ (es : List MapEntry) (l : List (Int × Value)) (n : Nat), ents l es → iget l x = none → Instr.findNow (.int .i64) (.int .i64 x) es n = some none := by
  intro es
  induction es with
  | nil => intro l n _ _; rfl
  | cons e r ih =>
    intro l n h hg
    cases l with
    | nil => simp [ents] at h
    | cons a q =>
      obtain ⟨y, u⟩ := a
      simp only [ents, List.map_cons, List.cons.injEq, Prod.mk.injEq] at h
      obtain ⟨⟨hk, _⟩, hr⟩ := h
      simp only [iget] at hg
      by_cases hxy : x = y
      · rw [if_pos hxy] at hg; cases hg
      · rw [if_neg hxy] at hg
        have : (x == y) = false := by simpa using hxy
        simp only [Instr.findNow, hk, Instr.sameNow, if_true, this]
        exact ih q (n + 1) hr hg
theorem find_some (x : Int) (u : Value) : ∀ (es : List MapEntry) (l : List (Int × Value)) (n : Nat), ents l es → iget l x = some u →
    ∃ i, Instr.findNow (.int .i64) (.int .i64 x) es n = some (some (n + i, u)) ∧ (∃ e, es[i]? = some e ∧ e.key = .int .i64 x) ∧ ∀ v, ents (iput l x v) (es.modify i fun e => { e with key := .int .i64 x, val := v }) := by
  intro es
  induction es with
  | nil =>
    intro l n h hg
    cases l with
    | nil => cases hg
    | cons a q => simp [ents] at h
  | cons e r ih =>
    intro l n h hg
    cases l with
    | nil => cases hg
    | cons a q =>
      obtain ⟨y, w⟩ := a
      simp only [ents, List.map_cons, List.cons.injEq, Prod.mk.injEq] at h
      obtain ⟨⟨hk, hv⟩, hr⟩ := h
      simp only [iget] at hg
      by_cases hxy : x = y
      · subst hxy
        rw [if_pos rfl] at hg
        injection hg with hg
        subst hg
        refine ⟨0, ?_, ⟨e, rfl, hk⟩, fun v => ?_⟩
        · have : (x == x) = true := by simp
          simp only [Instr.findNow, hk, Instr.sameNow, if_true, this, hv, Nat.add_zero]
        · simp only [iput, if_true, ents, List.modify_zero_cons, List.map_cons, hr]
      · rw [if_neg hxy] at hg
        obtain ⟨i, h1, h2, h3⟩ := ih q (n + 1) hr hg
        have : (x == y) = false := by simpa using hxy
        refine ⟨i + 1, ?_, ?_, fun v => ?_⟩
        · simp only [Instr.findNow, hk, Instr.sameNow, if_true, this]
          rw [h1]; congr 3; omega
        · simpa using h2
        · have := h3 v
          simp only [ents] at this
          simp only [iput, if_neg hxy, ents, List.modify_succ_cons, List.map_cons, hk, hv, this]
section
variable {P : Program} {t k e : TypeId} {W : World} {b : Nat} {l : List (Int × Value)}
theorem IM.look (h : IM W b l) (ht : P.underlying t = some (.map k e)) (hk : P.underlying k = some (.int .i64)) (x : Int) (c : Bool) (v : Value) (hg : iget l x = some v) :
    (Instr.lookup t (.map (some b)) (.int .i64 x) c).run P W = .ok (if c then .tuple #[v, .bool true] else v) W := by
  obtain ⟨es, clk, hb, he⟩ := h
  obtain ⟨i, h1, _, _⟩ := find_some x v _ _ 0 he hg
  exact run_lookup_some ht hk hb x c _ v h1
theorem IM.miss (h : IM W b l) (ht : P.underlying t = some (.map k e)) (hk : P.underlying k = some (.int .i64)) (x : Int) (c : Bool) (z : Value) (hz : (zeroValue e).run P W = .ok z W) (hg : iget l x = none) :
    (Instr.lookup t (.map (some b)) (.int .i64 x) c).run P W = .ok (if c then .tuple #[z, .bool false] else z) W := by
  obtain ⟨es, clk, hb, he⟩ := h
  exact run_lookup_none ht hk hb x c z hz (find_none x _ _ 0 he hg)
theorem IM.put (h : IM W b l) (ht : P.underlying t = some (.map k e)) (hk : P.underlying k = some (.int .i64)) (x : Int) (v : Value) :
    ∃ W', (Instr.mapUpdate t (.map (some b)) (.int .i64 x) v).run P W = .ok () W' ∧ IM W' b (iput l x v) ∧ W.grownBy W' (some b) ∧ W'.heap.size = W.heap.size := by
  obtain ⟨es, clk, hb, he⟩ := h
  have hlt : b < W.heap.size := (Array.getElem?_eq_some_iff.1 hb).1
  have hgrow : ∀ o, W.grownBy { W with heap := W.heap.setIfInBounds b o } (some b) := fun o => grownBy_putObj' W b o
  cases hg : iget l x with
  | none =>
    refine ⟨{ W with heap := W.heap.setIfInBounds b (.map (es.push { key := .int .i64 x, val := v, born := clk }) (clk + 1)) }, ?_, ?_, hgrow _, by simp⟩
    · simp [Instr.mapUpdate, run_underlying ht, MapKept.run_getObj_map hb, run_checkKey_int hk _ 9999, Instr.findKey, run_underlying hk, find_none x _ _ 0 he hg, MapKept.run_setObj_map _ hb, Result.andThen]
    · refine ⟨_, _, by simp [hlt]; exact ⟨rfl, rfl⟩, ?_⟩
      have : iput l x v = l ++ [(x, v)] := by
        clear he
        induction l with
        | nil => rfl
        | cons a r ih =>
          obtain ⟨y, u⟩ := a
          simp only [iget] at hg
          by_cases hxy : x = y
          · rw [if_pos hxy] at hg; cases hg
          · rw [if_neg hxy] at hg
            simp only [iput, if_neg hxy, ih hg, List.cons_append]
      rw [this]
      simp only [ents] at he ⊢
      simp [he]
  | some u =>
    obtain ⟨i, h1, ⟨e0, h2, h2k⟩, h3⟩ := find_some x u _ _ 0 he hg
    rw [Nat.zero_add] at h1
    refine ⟨{ W with heap := W.heap.setIfInBounds b (.map (es.modify i fun e => { e with key := .int .i64 x, val := v }) clk) }, ?_, ?_, hgrow _, by simp⟩
    · have h2' : es[i]? = some e0 := by simpa using h2
      have hkt : ∀ W', (Instr.keyThatStays (.int .i64 x) (.int .i64 x)).run P W' = .ok (.int .i64 x) W' := fun W' => by
        simp [Instr.keyThatStays, Instr.sameBits]
      simp [Instr.mapUpdate, run_underlying ht, MapKept.run_getObj_map hb, run_checkKey_int hk _ 9999, Instr.findKey, run_underlying hk, h1, h2', h2k, hkt, MapKept.run_setObj_map _ hb, Result.andThen]
    · refine ⟨_, _, by simp [hlt]; exact ⟨rfl, rfl⟩, ?_⟩
      have := h3 v
      simpa using this
theorem IM.len (h : IM W b l) : ∃ es clk, W.heap[b]? = some (.map es clk) ∧ es.size = l.length := by
  obtain ⟨es, clk, hb, he⟩ := h
  exact ⟨es, clk, hb, by have := congrArg List.length he; simpa using this⟩
theorem IM.lt (h : IM W b l) : b < W.heap.size := by
  obtain ⟨es, clk, hb, _⟩ := h
  exact (Array.getElem?_eq_some_iff.1 hb).1
theorem IM.of_block {W' : World} (h : IM W b l) (hb : W'.heap[b]? = W.heap[b]?) : IM W' b l := by
  obtain ⟨es, clk, h1, h2⟩ := h
  exact ⟨es, clk, hb.trans h1, h2⟩
theorem IM.after {W' : World} (h : IM W b l) (hb : Below W.heap.size W W') : IM W' b l := h.of_block (hb.block b h.lt)
theorem IM.setCell (h : IM W b l) {p : Addr} (hp : b ≠ p.block) (u : Value) : IM (W.setCell p u) b l := h.of_block (Below.heap_setCell W p u b hp)
theorem IM.alloc (h : IM W b l) (o : Obj) : IM (W.alloc o) b l := h.of_block (Below.heap_alloc W o b h.lt)
theorem IM.grown {W' : World} {row : Option Nat} (h : IM W b l) (hg : W.grownBy W' row) (hr : some b ≠ row) : IM W' b l := h.of_block (hg.block b h.lt hr)
theorem IM.new (W : World) (c : Nat) : IM (W.alloc (.map #[] c)) W.heap.size [] := ⟨#[], c, heap_alloc_new W _, rfl⟩
end
end Go.Proofs.Ytlgnhnjnkhnoiaa
