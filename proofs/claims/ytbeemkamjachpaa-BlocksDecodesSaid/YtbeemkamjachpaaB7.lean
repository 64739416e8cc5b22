/- The iterator's contract as the law of loops wants it; Number, by a contract. -/
import Derived.Test.YtbeemkamjachpaaB6
import Derived.RangeFuncFrom
namespace Go.Proofs.Ytbeemkamjachpaa
open Go.RowKit Go.Shelf
set_option maxRecDepth 100000
attribute [local go_sem] Oper.semAt_some
theorem grown_drewN (w : World) (d : Nat) : w.grownBy (w.drewN d) none := ⟨rfl, rfl, rfl, Nat.le_refl _, fun _ _ _ => rfl⟩
/-- What the iterator yields: a block of the range in one of the states. -/
structure Bk (f : Nat) (l : List UInt8) (t : List Int) where
  val : Int
  prop : ∃ k, k < l.length ∧ ((l.getD k 0).toNat : Int) ∈ t ∧ val = (f : Int) + (k : Nat)
def vals {f : Nat} {l : List UInt8} {t : List Int} (ys : List (Bk f l t)) : List Int := ys.map fun z => z.1
theorem vals_snoc {f : Nat} {l : List UInt8} {t : List Int} (ys : List (Bk f l t)) (z : Bk f l t) : vals (ys ++ [z]) = vals ys ++ [z.1] := List.map_append
theorem in1_stops (n : Nat) (hn : 1 ≤ n) (B1 B2 b s f : Nat) (S : Nat → Prop) (l : List UInt8) (A : Option Addr) (m c : Nat) (t : List Int)
    (sb : ¬ S b) (ss : ¬ S s) (s1 : ¬ S B1) (s2 : ¬ S B2) (sA : 0 < m → ∀ ad, A = some ad → ¬ S ad.block)
    (W : World) (hB1 : W.cell? ⟨B1, 0, none⟩ = some (.pointer (some ⟨b, 0, none⟩))) (hB2 : W.cell? ⟨B2, 0, none⟩ = some (.slice A m c)) (hm : MpAt W b s f l) (ht : Rd W W.heap.size LI A m t) (hml : m ≤ 9223372036854775806) :
    SeqStopsK Fence.wide n Try.prog 66 #[.pointer (some ⟨B1, 0, none⟩), .pointer (some ⟨B2, 0, none⟩)] (fun x : Bk f l t => #[Value.int .i64 x.1]) (Keep S) (fun ys => vals ys = inL f l t l.length)
      (fun pre => ∃ k, k ≤ l.length ∧ vals pre = inL f l t k) l.length W := fun y J Jx W' hW hJ hJx hY h0 => by
  refine (in1_in n hn y B1 B2 b s f S l A m c t (fun pre w => ∃ ys : List (Bk f l t), vals ys = pre ∧ J ys w) (fun pre w => ∃ ys : List (Bk f l t), vals ys = pre ∧ Jx ys w) sb ss s1 s2 sA
    (fun pre w d ⟨ys, hy, hj⟩ => ⟨ys, hy, hJ ys w _ none hj (grown_drewN w d) (fun r e => by cases e)⟩) ?_ W' ((hW.cell (p := ⟨B1, 0, none⟩) (block_lt hB1)).trans hB1) ((hW.cell (p := ⟨B2, 0, none⟩) (block_lt hB2)).trans hB2)
    (hm.after hW) (ht.after hW) hml ⟨[], rfl, h0⟩).mono ?_
  · rintro k w hk hin ⟨ys, hys, hj⟩
    have hl := inL_len f l t k
    rw [← hys, vals, List.length_map] at hl
    refine (hY ys ⟨(f : Int) + (k : Nat), k, hk, hin, rfl⟩ w hj (by omega)).mono ?_
    rintro e w' (⟨rfl, h1, h2⟩ | ⟨rfl, h1⟩)
    · exact .inl ⟨rfl, ⟨_, by rw [← hys]; exact vals_snoc ys _, h1⟩, h2⟩
    · exact .inr ⟨rfl, ⟨_, by rw [← hys]; exact vals_snoc ys _, h1⟩⟩
  · rintro e w' ⟨hv, ⟨_, rfl, ys, hys, hj⟩ | ⟨_, ⟨k, hk, rfl⟩, ys, hys, hj⟩⟩
    · exact ⟨hv, .inl ⟨ys, hys, hj⟩⟩
    · exact ⟨hv, .inr ⟨ys, ⟨k, hk, hys⟩, hj⟩⟩
theorem keep_t {S : Nat → Prop} {A B C : World} (h : Keep S A B) (k : Keep S B C) : Keep S A C := h.trans k fun _ _ h => h
theorem keep_put {S : Nat → Prop} {N : Nat} (hS : ∀ i, N ≤ i → S i) (W : World) (l : Nat) (o' : Obj) (hl : N ≤ l) : Keep S W (W.putObj l o') :=
  (Keep.refl S W).grown (grownBy_putObj' W l o') fun k hk _ => by cases hk; exact hS _ hl
/-- in: both arguments are boxed. -/
theorem in_any (q : Option Addr) (A : Option Addr) (m c : Nat) (W : World) : Calls Try.prog 45 #[.pointer q, .slice A m c] W fun e w' =>
    e = .returned (.func (.func 66) #[] #[.pointer (some ⟨W.heap.size, 0, none⟩), .pointer (some ⟨W.heap.size + 1, 0, none⟩)]) ∧ w' = (W.alloc (.cells #[.pointer q] 25)).alloc (.cells #[.slice A m c] 26) := by
  go_enter Try.func45, Try.ntmps45
  go_wp2
  go_returns
  exact ⟨rfl, rfl⟩
theorem LI_all (l : List Int) : l.flatMap LI.enc = l.map fun x => Value.int .i64 x := by
  induction l with
  | nil => rfl
  | cons a r ih => rw [List.flatMap_cons, ih]; rfl
theorem Rd.ofI {w : World} {g B : Nat} {e : TypeId} {l : List Int} (h : Blk w g e (l.map fun x => Value.int .i64 x).toArray) (hB : g < B) : Rd w B LI (some ⟨g, 0, none⟩) l.length l :=
  ⟨rfl, fun _ => ⟨⟨g, 0, none⟩, rfl, hB, fun j u hu => by
    have e : (⟨g, 0, none⟩ : Addr).add j = ⟨g, j, none⟩ := by simp [Addr.add]; exact fun h => h.symm
    rw [LI_all] at hu
    rw [e, h.cell j, List.getElem?_toArray]; exact hu⟩⟩
/-- The world after a call of in with the states t, in which the boxes and the states lie. -/
structure InW (W : World) (N k : Nat) (b : Nat) (t : List Int) (w : World) : Prop where
  size : w.heap.size = N + k + 3
  st : Blk w (N + k) 3 (t.map fun x => Value.int .i64 x).toArray
  b1 : Blk w (N + k + 1) 25 #[.pointer (some ⟨b, 0, none⟩)]
  b2 : Blk w (N + k + 2) 26 #[.slice (some ⟨N + k, 0, none⟩) t.length t.length]
  bel : Below N W w
theorem InW.of {W w0 : World} {N k b : Nat} (t : List Int) (hb : Below N W w0) (hN : N ≤ w0.heap.size) (hk : w0.heap.size = N + k) :
    InW W N k b t (((w0.alloc (.cells (t.map fun x => Value.int .i64 x).toArray 3)).alloc (.cells #[.pointer (some ⟨b, 0, none⟩)] 25)).alloc (.cells #[.slice (some ⟨N + k, 0, none⟩) t.length t.length] 26)) := by
  have h1 := ((Blk.new w0 3 (t.map fun x => Value.int .i64 x).toArray).alloc (.cells #[.pointer (some ⟨b, 0, none⟩)] 25)).alloc (.cells #[.slice (some ⟨N + k, 0, none⟩) t.length t.length] 26)
  have h2 := (Blk.new (w0.alloc (.cells (t.map fun x => Value.int .i64 x).toArray 3)) 25 #[.pointer (some ⟨b, 0, none⟩)]).alloc (.cells #[.slice (some ⟨N + k, 0, none⟩) t.length t.length] 26)
  have h3 := Blk.new ((w0.alloc (.cells (t.map fun x => Value.int .i64 x).toArray 3)).alloc (.cells #[.pointer (some ⟨b, 0, none⟩)] 25)) 26 #[.slice (some ⟨N + k, 0, none⟩) t.length t.length]
  simp only [World.size_alloc, hk] at h1 h2 h3
  exact ⟨by simp only [World.size_alloc, hk], h1, h2, h3, ((hb.alloc hN _).alloc (by simp; omega) _).alloc (by simp; omega) _⟩
theorem InW.stops {W w : World} {N k b s f : Nat} {t : List Int} {l : List UInt8} (h : InW W N k b t w) (hm : MpAt W b s f l) (hN : N = W.heap.size) (n : Nat) (hn : 1 ≤ n) (ht : t.length ≤ 100) (S : Nat → Prop) (hS : ∀ i, S i → N ≤ i ∧ i ≠ N + k ∧ i ≠ N + k + 1 ∧ i ≠ N + k + 2) :
    SeqStopsK Fence.wide n Try.prog 66 #[.pointer (some ⟨N + k + 1, 0, none⟩), .pointer (some ⟨N + k + 2, 0, none⟩)] (fun x : Bk f l t => #[Value.int .i64 x.1]) (Keep S) (fun ys => vals ys = inL f l t l.length)
      (fun pre => ∃ k, k ≤ l.length ∧ vals pre = inL f l t k) l.length w := by
  have hlt := hm.lt
  refine in1_stops n hn _ _ b s f S l _ _ _ t (fun hs => by have := hS _ hs; omega) (fun hs => by have := hS _ hs; omega) (fun hs => by have := hS _ hs; omega) (fun hs => by have := hS _ hs; omega) ?_ w (h.b1.cell 0) (h.b2.cell 0) (hm.after (hN ▸ h.bel)) (Rd.ofI h.st (by rw [h.size]; omega)) (by omega)
  intro _ ad had hs
  cases had
  have := hS _ hs
  dsimp only at this
  omega
set_option maxHeartbeats 2000000 in
theorem number_any (b s f : Nat) (l : List UInt8) (x : Int) (W : World) (hm : MpAt W b s f l) : Calls Try.prog 20 #[.pointer (some ⟨b, 0, none⟩), .int .i64 x] W fun e w' =>
    e = .returned (.int .i64 ((inL f l [x] l.length).length : Nat)) ∧ Below W.heap.size W w' := by
  refine callsIn_wide (n := 3).1 ?_
  refine callsIn_of_wp_marks Try.func20 rfl trivial ?_ rfl
  simp only [Try.ntmps20, List.size_toArray, List.length_cons, List.length_nil, Nat.reduceAdd, Nat.reduceSub, Array.replicate_succ, Array.replicate_zero, List.push_toArray, List.append_toArray, List.nil_append, List.cons_append]
  gi_wp2_with (refine ⟨trivial, ?_⟩; gi_at_call 45; refine (callsIn_wide.2 (in_any _ _ _ _ _)).mono ?_; rintro e w' ⟨rfl, rfl⟩)
  have hI := InW.of (W := W) (w0 := W.alloc (.cells #[.int .i64 0] 3)) (N := W.heap.size) (k := 1) (b := b) [x] ((Below.refl _ W).alloc (Nat.le_refl _) _) (by simp) (by simp)
  have hc := (((Blk.new W 3 #[.int .i64 0]).alloc (.cells #[.int .i64 x] 3)).alloc (.cells #[.pointer (some ⟨b, 0, none⟩)] 25)).alloc (.cells #[.slice (some ⟨W.heap.size + 1, 0, none⟩) 1 1] 26)
  change InW W _ _ b [x] ((((W.alloc (.cells #[.int .i64 0] 3)).alloc (.cells #[.int .i64 x] 3)).alloc (.cells #[.pointer (some ⟨b, 0, none⟩)] 25)).alloc (.cells #[.slice (some ⟨W.heap.size + 1, 0, none⟩) 1 1] 26)) at hI
  generalize (((W.alloc (.cells #[.int .i64 0] 3)).alloc (.cells #[.int .i64 x] 3)).alloc (.cells #[.pointer (some ⟨b, 0, none⟩)] 25)).alloc (.cells #[.slice (some ⟨W.heap.size + 1, 0, none⟩) 1 1] 26) = w4 at hI hc ⊢
  have hsz := hI.size
  have hl := hm.n1
  refine wpIn_rangeFunc_ownF rfl (by decide) (gf := 66) (lb := #[.pointer (some ⟨W.heap.size + 1 + 1, 0, none⟩), .pointer (some ⟨W.heap.size + 1 + 2, 0, none⟩)]) rfl trivial (enters_of Try.func66 (by kernel_rfl) rfl)
    (hI.stops hm rfl 2 (by decide) (by simp) (fun i => i = W.heap.size ∨ W.heap.size + 4 ≤ i) (fun i hi => by omega)) keep_t (fun W' l' o o' hl' _ _ _ => keep_put (N := W.heap.size + 4) (fun i hi => .inr hi) W' l' o' (by omega)) (Below.refl _ _) (fun _ => rfl)
    (fun pre w => (w.cell? ⟨W.heap.size, 0, none⟩ = some (.int .i64 (pre.length : Nat)) ∧ w.frozen? ⟨W.heap.size, 0, none⟩ = false) ∧ Below W.heap.size W w)
    (fun _ _ _ => False)
    (OwnFrom.and (Own.from (fun s A B row hs hg hr => ⟨cell_kept hs.1 hg hr, (frozen_kept hs.1 hg hr).trans hs.2⟩) _) (ownFrom_below (Nat.le_refl _) (by omega)))
    (fun _ _ _ _ _ hs _ _ => hs)
    ⟨⟨hc.cell 0, hc.frozen 0⟩, hI.bel⟩
    (fun z => { tmps := #[.pointer (some ⟨b, 0, none⟩), .int .i64 x, undef, undef, .int .i64 0, .pointer (some ⟨W.heap.size, 0, none⟩), .pointer (some ⟨b, 0, none⟩), .int .i64 x, .slice (some ⟨W.heap.size + 1, 0, none⟩) 1 1, .func (.func 66) #[] #[.pointer (some ⟨W.heap.size + 1 + 1, 0, none⟩), .pointer (some ⟨W.heap.size + 1 + 2, 0, none⟩)], .int .i64 z.1, undef, undef, undef], defers := [] }) ?assign ?body ?done ?stop
  case assign =>
    intro l' z w K hK
    gi_wp2
    simpa using hK
  case body =>
    rintro l' pre z w ⟨⟨hc', hf⟩, hB⟩ hpl
    have HB := Lib.hid hB
    clear hB hI hc
    gi_wp2
    exact ⟨KeepsOthers.setCell _ _ _, (Keep.refl _ _).setCell (fun _ => .inl rfl) _, ⟨by rw [List.length_append]; exact World.cell?_setCell_same' _ _ _ (by rw [hc']; rfl), by rw [World.frozen?_setCell]; exact hf⟩, HB.out.setCell (p := ⟨W.heap.size, 0, none⟩) (Nat.le_refl _) _⟩
  case done =>
    rintro D ys w hD hys ⟨⟨hc', _⟩, hB⟩ hK
    have hyl : ys.length = (inL f l [x] l.length).length := by rw [← hys, vals, List.length_map]
    rw [hyl] at hc'
    have HB := Lib.hid hB
    clear hB hI hc
    gi_wp2
    refine ⟨by simp, .inl ⟨_, _, rfl, run_takeDeferred hK, ?_⟩⟩
    exact ⟨_, results_tmp rfl _ _ _, rfl, HB.out.trans (belowK_b (w := W) (Nat.le_refl _) w D _ _ (by omega) hK rfl rfl)⟩
  case stop =>
    rintro D c pre W _ _ h _
    exact h.elim
end Go.Proofs.Ytbeemkamjachpaa
