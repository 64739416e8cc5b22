/- The law's Same of two lists of blocks (28), and known, by contracts. -/
import Derived.Test.YtbeemkamjachpaaB11
namespace Go.Proofs.Ytbeemkamjachpaa
open Go.RowKit
set_option maxRecDepth 100000
theorem drop_eq_iff {α : Type} (l1 l2 : List α) (k : Nat) (h1 : k < l1.length) (h2 : k < l2.length) : (l1.drop k = l2.drop k) ↔ (l1[k] = l2[k] ∧ l1.drop (k + 1) = l2.drop (k + 1)) := by
  rw [List.drop_eq_getElem_cons h1, List.drop_eq_getElem_cons h2, List.cons.injEq]
set_option maxHeartbeats 1000000 in
theorem same_any (A1 : Option Addr) (n1 c1 : Nat) (l1 : List Int) (A2 : Option Addr) (n2 c2 : Nat) (l2 : List Int) (W : World) (h1 : Rd W W.heap.size LI A1 n1 l1) (h2 : Rd W W.heap.size LI A2 n2 l2) (hn1 : n1 ≤ 9223372036854775806) :
    Calls Try.prog 28 #[.slice A1 n1 c1, .slice A2 n2 c2] W fun e w' => e = .returned (.bool (decide (l1 = l2))) ∧ Below W.heap.size W w' := by
  have H1 := Lib.hid h1; have H2 := Lib.hid h2
  have hl1 := h1.len; have hl2 := h2.len
  clear h1 h2
  by_cases hne : n1 = n2
  · subst hne
    have HD := Lib.hid (show decide (l1 = l2) = decide (l1.drop 0 = l2.drop 0) by rw [List.drop_zero, List.drop_zero])
    have HL1 := Lib.hid hl1; have HL2 := Lib.hid hl2
    have HB := Lib.hid (Below.refl W.heap.size W)
    clear hl1 hl2
    go_enter Try.func28, Try.ntmps28
    go_wp2
    go_loopw [5] (fun v wr => ∃ k : Nat, k ≤ n1 ∧ v = .int .i64 (k : Nat) ∧ Below W.heap.size W wr ∧ decide (l1 = l2) = decide (l1.drop k = l2.drop k)) (fun v _ => n1 - (intOf v).toNat)
    case atStart => exact ⟨0, by omega, rfl, HB.out, HD.out⟩
    case round =>
      obtain ⟨k, hk, rfl, hb, hd⟩ := hrel
      have HBk := Lib.hid hb
      by_cases hlt : k < n1
      · have k1 : k < l1.length := by have := HL1.out; omega
        have k2 : k < l2.length := by have := HL2.out; omega
        obtain ⟨b1, o1, x, rfl, hb1, hx, hc1⟩ := (H1.out.below hb).nth hlt
        obtain ⟨b2, o2, y, rfl, hb2, hy, hc2⟩ := (H2.out.below hb).nth hlt
        have d1 : wr.cell? ⟨b1, o1 + k, none⟩ = some (.int .i64 x) := by
          have := hc1 0 _ rfl
          simpa [LI] using this
        have d2 : wr.cell? ⟨b2, o2 + k, none⟩ = some (.int .i64 y) := by
          have := hc2 0 _ rfl
          simpa [LI] using this
        have hx' : l1[k] = x := by rw [List.getElem?_eq_getElem k1] at hx; injection hx
        have hy' : l2[k] = y := by rw [List.getElem?_eq_getElem k2] at hy; injection hy
        have hde := drop_eq_iff l1 l2 k k1 k2
        rw [hx', hy'] at hde
        clear hx hy hc1 hc2 hx' hy' hb k1 k2 hb1 hb2
        by_cases he : x = y
        · have e0 : (x != y) = false := by simp [he]
          have HD' := Lib.hid (hd.trans (show decide (l1.drop k = l2.drop k) = decide (l1.drop (k + 1) = l2.drop (k + 1)) by
            by_cases h : l1.drop (k + 1) = l2.drop (k + 1)
            · rw [decide_eq_true h, decide_eq_true (hde.2 ⟨he, h⟩)]
            · rw [decide_eq_false h, decide_eq_false (fun hh => h (hde.1 hh).2)]))
          clear hde hd he HD
          go_wp2
          go_quiet (fail)
          have HB' := Lib.hid (below_drewN HBk.out nq)
          clear d1 d2 HBk
          generalize wr.drewN nq = w2 at HB' ⊢
          go_wp2
          go_roundw
          case rel => exact ⟨k + 1, by omega, by go_num, HB'.out, HD'.out⟩
          case measure => simp [intOf]; omega
        · have e0 : (x != y) = true := by simp [he]
          have HD' := Lib.hid (hd.trans (show decide (l1.drop k = l2.drop k) = false from decide_eq_false (fun hh => he (hde.1 hh).1)))
          clear hde hd he HD
          go_wp2
          go_quiet (fail)
          have HB' := Lib.hid (below_drewN HBk.out nq)
          clear d1 d2 HBk
          generalize wr.drewN nq = w2 at HB' ⊢
          go_wp2
          go_returns
          exact ⟨by rw [HD'.out]; rfl, HB'.out⟩
      · obtain rfl : k = n1 := by omega
        rw [List.drop_of_length_le (by rw [HL1.out]; exact Nat.le_refl _), List.drop_of_length_le (by rw [HL2.out]; exact Nat.le_refl _)] at hd
        have HD' := Lib.hid hd
        clear hd hb HD
        go_wp2
        go_returns
        exact ⟨by rw [HD'.out]; simp, HBk.out⟩
  · have e0 : ((n1 : Int) != n2) = true := by simp; omega
    have hd : decide (l1 = l2) = false := decide_eq_false (fun e => hne (by rw [← hl1, ← hl2, e]))
    have HD := Lib.hid hd
    have HB := Lib.hid (Below.refl W.heap.size W)
    clear hd hl1 hl2 hne
    go_enter Try.func28, Try.ntmps28
    go_wp2
    go_returns
    exact ⟨by rw [HD.out]; rfl, HB.out⟩
/-- The first free block. -/
def ffree : List UInt8 → Nat → Option Nat
  | [], _ => none
  | x :: r, i => if x = 0 then some i else ffree r (i + 1)
theorem ffree_some : ∀ (l : List UInt8) (i k : Nat), k < l.length → l.getD k 0 = 0 → (∀ j, j < k → l.getD j 0 ≠ 0) → ffree l i = some (i + k) := by
  intro l
  induction l with
  | nil => intro i k h; simp at h
  | cons x r ih =>
    intro i k hk h0 hb
    unfold ffree
    cases k with
    | zero => rw [if_pos (by simpa using h0)]; rfl
    | succ k =>
      have hx : x ≠ 0 := by simpa using hb 0 (by omega)
      rw [if_neg hx, ih (i + 1) k (by simpa using hk) (by simpa using h0) (fun j hj => by simpa using hb (j + 1) (by omega))]
      congr 1; omega
theorem ffree_none : ∀ (l : List UInt8) (i : Nat), (∀ j, j < l.length → l.getD j 0 ≠ 0) → ffree l i = none := by
  intro l
  induction l with
  | nil => intro i _; rfl
  | cons x r ih =>
    intro i hb
    unfold ffree
    rw [if_neg (by simpa using hb 0 (by simp)), ih (i + 1) (fun j hj => by simpa using hb (j + 1) (by simpa using hj))]
theorem in0 (x : UInt8) : ((x.toNat : Int) ∈ [(0 : Int)]) ↔ x = 0 := by
  simp only [List.mem_singleton]
  constructor
  · intro h; apply UInt8.toNat_inj.1; simpa using h
  · rintro rfl; rfl
theorem inL_none (f : Nat) (l : List UInt8) (h : inL f l [0] l.length = []) : ffree l 0 = none := by
  refine ffree_none l 0 fun j hj h0 => ?_
  have hm : (f : Int) + (j : Nat) ∈ inL f l [0] l.length := by
    unfold inL
    refine List.mem_map.2 ⟨j, List.mem_filter.2 ⟨List.mem_range.2 hj, decide_eq_true ((in0 _).2 h0)⟩, rfl⟩
  rw [h] at hm
  cases hm
theorem inL_first (f : Nat) (l : List UInt8) (k j : Nat) (hk : k < l.length) (h : inL f l [0] j = [(f : Int) + (k : Nat)]) : ffree l 0 = some k := by
  have hin : ∀ i, i < j → l.getD i 0 = 0 → i = k := fun i hi h0 => by
    have hm : (f : Int) + (i : Nat) ∈ inL f l [0] j := List.mem_map.2 ⟨i, List.mem_filter.2 ⟨List.mem_range.2 hi, decide_eq_true ((in0 _).2 h0)⟩, rfl⟩
    rw [h] at hm
    simp only [List.mem_singleton] at hm
    omega
  have hself : k < j ∧ l.getD k 0 = 0 := by
    have hm : (f : Int) + (k : Nat) ∈ inL f l [0] j := by rw [h]; exact List.mem_singleton.2 rfl
    obtain ⟨i, hi, he⟩ := List.mem_map.1 hm
    obtain ⟨h1, h2⟩ := List.mem_filter.1 hi
    have : i = k := by omega
    subst this
    exact ⟨List.mem_range.1 h1, (in0 _).1 (of_decide_eq_true h2)⟩
  have := ffree_some l 0 k hk hself.2 (fun i hi h0 => by have := hin i (by omega) h0; omega)
  simpa using this
theorem take_none (b s f : Nat) (l : List UInt8) (W : World) (hm : MpAt W b s f l) (hf : ffree l 0 = none) : Calls Try.prog 19 #[.pointer (some ⟨b, 0, none⟩)] W fun e w' =>
    e = .returned (.tuple #[.int .i64 0, .int .i64 26]) ∧ Below W.heap.size W w' := by
  refine (take_raw b s f l W hm).mono ?_
  rintro e w' (⟨rfl, -, hb⟩ | ⟨k, hk, ⟨j, hj⟩, _⟩)
  · exact ⟨rfl, hb⟩
  · rw [inL_first f l k j hk hj] at hf; cases hf
theorem take_some (b s f : Nat) (l : List UInt8) (k : Nat) (W : World) (hm : MpAt W b s f l) (hf : ffree l 0 = some k) : Calls Try.prog 19 #[.pointer (some ⟨b, 0, none⟩)] W fun e w' =>
    e = .returned (.tuple #[.int .i64 ((f : Int) + (k : Nat)), .int .i64 0]) ∧ MpAt w' b s f (l.set k 2) ∧ Keep (fun i => i = s) W w' := by
  refine (take_raw b s f l W hm).mono ?_
  rintro e w' (⟨rfl, hn, hb⟩ | ⟨k', hk, ⟨j, hj⟩, rfl, h1, h2⟩)
  · rw [inL_none f l hn] at hf; cases hf
  · rw [inL_first f l k' j hk hj] at hf
    cases hf
    exact ⟨rfl, h1, h2⟩
end Go.Proofs.Ytbeemkamjachpaa
