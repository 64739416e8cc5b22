/- How a law's arguments are opened: a slice that came in reads as a list, whatever its elements are made of. Nothing of the program itself. -/
import Derived.Test.YtbeemkamjachpaaMem
import Derived.Deep.Slices
import Derived.Deep.Fields
namespace Go.Proofs.Ytbeemkamjachpaa
open Go.RowKit Go.ChangeShapes Go.WideShapes Go.Deep
section
variable {H : Type} {enc : TypeId × Value → H} {P : Program} {w : World}
theorem block_lt {a : Addr} {v : Value} (h : w.cell? a = some v) : a.block < w.heap.size := by
  rcases Nat.lt_or_ge a.block w.heap.size with h' | h'
  · exact h'
  · simp [World.cell?, Array.getElem?_eq_none h'] at h
/-- A slice of whatever elements: dec says how one element's cells read. -/
theorem open_lay {α : Type} {L : Lay α} {Ok : α → Prop} {t e : TypeId} {a : Option Addr} {len cap : Nat} {d : DataW H} {p : List MemPlace} (ht : P.underlying t = some (.slice e)) (hC : P.cellsOf e = L.size)
    (dec : ∀ n cs y, DataW.trod enc P w 0 (fun _ => true) true n e cs = some y → ∃ x, cs = L.enc x ∧ Ok x) (h : DataW.Trod enc P w 0 (fun _ => true) true t (.slice a len cap) d p) :
    ∃ l : List α, Rd w w.heap.size L a len l ∧ (∀ x ∈ l, Ok x) ∧ len ≤ cap ∧ cap ≤ maxLen := by
  obtain ⟨fuel, hf⟩ := h
  rcases open_slice ht hf with ⟨hcs, _⟩ | ⟨x, l, c, m, n, D, Pl, hcs, _, hl, hm, hmm, _, hi⟩
  · simp [Value.cells] at hcs
    obtain ⟨rfl, rfl, rfl⟩ := hcs
    exact ⟨[], Rd.none_, fun _ h => by simp at h, Nat.le_refl _, Nat.zero_le _⟩
  · simp [Value.cells] at hcs
    obtain ⟨rfl, rfl, rfl⟩ := hcs
    simp only [if_true] at hmm
    subst hmm
    have hel : ∀ i, i < len → ∃ y : α, Ok y ∧ ∀ j u, (L.enc y)[j]? = some u → w.cell? (x.add (i * L.size + j)) = some u := by
      intro i hil
      obtain ⟨cs', hc, htr⟩ := hi i (by omega)
      obtain ⟨y, rfl, hok⟩ := dec _ _ _ htr
      obtain ⟨_, hcl, hat⟩ := World.cells?_some hc
      refine ⟨y, hok, fun j u hu => ?_⟩
      have hj : j < L.size := by rw [← L.len y]; exact (List.getElem?_eq_some_iff.1 hu).1
      have := hat j (by rw [hC]; exact hj)
      rw [hC, Go.Deep.add_add, hu] at this
      exact this
    obtain ⟨f, hfo⟩ : ∃ f : Nat → Option α, ∀ i, i < len → ∃ y, f i = some y ∧ Ok y ∧ ∀ j u, (L.enc y)[j]? = some u → w.cell? (x.add (i * L.size + j)) = some u := by
      refine ⟨fun i => if h : i < len then some (Classical.choose (hel i h)) else none, fun i h => ?_⟩
      have := Classical.choose_spec (hel i h)
      exact ⟨_, dif_pos h, this.1, this.2⟩
    refine ⟨(List.range len).filterMap f, ?_, ?_, hl, hm⟩
    · have key : ∀ k, k ≤ len → ((List.range k).filterMap f).length = k ∧ ∀ i, i < k → ∃ y, ((List.range k).filterMap f)[i]? = some y ∧ f i = some y := by
        intro k
        induction k with
        | zero => intro _; exact ⟨rfl, fun i h => by omega⟩
        | succ k ih =>
          intro hk
          obtain ⟨h1, h2⟩ := ih (by omega)
          obtain ⟨y, hy, _⟩ := hfo k (by omega)
          have e : (List.range (k + 1)).filterMap f = (List.range k).filterMap f ++ [y] := by
            rw [List.range_succ, List.filterMap_append]; simp [hy]
          rw [e]
          refine ⟨by simp [h1], fun i hik => ?_⟩
          rcases Nat.lt_or_ge i k with h | h
          · obtain ⟨z, hz, hz'⟩ := h2 i h
            exact ⟨z, by rw [List.getElem?_append_left (by rw [h1]; exact h)]; exact hz, hz'⟩
          · obtain rfl : i = k := by omega
            exact ⟨y, by rw [List.getElem?_append_right (by rw [h1]; exact Nat.le_refl _), h1]; simp, hy⟩
      obtain ⟨h1, h2⟩ := key len (Nat.le_refl _)
      refine ⟨h1, fun hn => ⟨x, rfl, ?_, fun j u hu => ?_⟩⟩
      · obtain ⟨y, hy, _, hc⟩ := hfo 0 hn
        have hlen := L.len y
        have hp := L.pos
        have := hc 0 _ (List.getElem?_eq_getElem (by omega))
        have hb := block_lt this
        rwa [block_of_add] at hb
      · have hjl : j < ((List.range len).filterMap f).length * L.size := by rw [← L.all_len]; exact (List.getElem?_eq_some_iff.1 hu).1
        rw [h1] at hjl
        have hq : j / L.size < len := Nat.div_lt_of_lt_mul (by rw [Nat.mul_comm]; exact hjl)
        obtain ⟨y, hy, hfy⟩ := h2 _ hq
        have hmod : j % L.size < L.size := Nat.mod_lt _ L.pos
        have hje : j / L.size * L.size + j % L.size = j := Nat.div_add_mod' j L.size
        have hg := L.get _ _ _ y hy hmod
        rw [hje] at hg
        rw [hg] at hu
        obtain ⟨z, hz, _, hc⟩ := hfo _ hq
        rw [hfy] at hz
        injection hz with hz
        subst hz
        have := hc _ u hu
        rwa [hje] at this
    · intro y hy
      obtain ⟨i, hi', hfy⟩ := List.mem_filterMap.1 hy
      obtain ⟨z, hz, hok, _⟩ := hfo i (by simpa using hi')
      rw [hfy] at hz
      injection hz with hz
      subst hz
      exact hok
/-- The cells of a field of one cell. -/
theorem one_cell {cs : List Value} {j : Nat} (h : j < cs.length) : (cs.drop j).take 1 = [cs[j]] := by
  rw [List.drop_eq_getElem_cons h]; rfl
end
end Go.Proofs.Ytbeemkamjachpaa
