/- The source, and what is known of a page after the source was asked for it, by contracts. -/
import Derived.Test.YtlgnhnjnkhnoiaaA1
namespace Go.Proofs.Ytlgnhnjnkhnoiaa
open Go.RowKit
set_option maxRecDepth 100000
/-- A source that counts: its block, its two maps' blocks, its pages. -/
structure Gsrc where
  ba : Nat
  bm : Nat
  bc : Nat
  pg : List (Int × Value)
def srcV : Option Gsrc → Value
  | none => .nilFunc
  | some g => .func (.func 12) #[.pointer (some ⟨g.ba, 0, none⟩)] #[]
structure GAt (W : World) (g : Gsrc) (cn : List (Int × Value)) : Prop where
  blk : Blk W g.ba 30 #[.map (some g.bm), .map (some g.bc)]
  im : IM W g.bm g.pg
  ic : IM W g.bc cn
  ne : g.bm ≠ g.bc
  na : g.ba ≠ g.bc
  str : ∀ x v, iget g.pg x = some v → ∃ s : ByteArray, v = .string s
theorem zero3 (w : World) : (zeroValue 3).run Try.prog w = .ok (.int .i64 0) w := by kernel_rfl
theorem zero9 (w : World) : (zeroValue 9).run Try.prog w = .ok (.string ⟨#[]⟩) w := by kernel_rfl
/-- What the source says of a page: bytes and whether it is there. -/
def sayS (g : Gsrc) (p : Int) : ByteArray × Bool := match iget g.pg p with | some (.string s) => (s, true) | _ => (⟨#[]⟩, false)
theorem sayS_look {W : World} {g : Gsrc} {cn : List (Int × Value)} (h : GAt W g cn) (p : Int) {W' : World} (hm : IM W' g.bm g.pg) :
    (Instr.lookup 25 (.map (some g.bm)) (.int .i64 p) true).run Try.prog W' = .ok (.tuple #[.string (sayS g p).1, .bool (sayS g p).2]) W' := by
  unfold sayS
  cases hg : iget g.pg p with
  | none => exact hm.miss Try.underlying25 Try.underlying3 p true _ (zero9 W') hg
  | some v =>
    obtain ⟨s, rfl⟩ := h.str p v hg
    exact hm.look Try.underlying25 Try.underlying3 p true _ hg
set_option maxHeartbeats 400000 in
theorem get_any (g : Gsrc) (cn : List (Int × Value)) (p : Int) (W : World) (h : GAt W g cn) (h0 : iget cn p = none) :
    Calls Try.prog 12 #[.pointer (some ⟨g.ba, 0, none⟩), .int .i64 p] W fun e w' => e = .returned (.tuple #[.string (sayS g p).1, .bool (sayS g p).2]) ∧ GAt w' g (iput cn p (.int .i64 1)) ∧ W.grownBy w' (some g.bc) ∧ w'.heap.size = W.heap.size := by
  have d0 : W.cell? ⟨g.ba, 0, none⟩ = some (.map (some g.bm)) := h.blk.cell 0
  have d1 : W.cell? ⟨g.ba, 1, none⟩ = some (.map (some g.bc)) := h.blk.cell 1
  have hl := h.ic.miss Try.underlying28 Try.underlying3 p false _ (zero3 W) h0
  obtain ⟨W', hp, hic, hgr, hsz⟩ := h.ic.put Try.underlying28 Try.underlying3 p (.int .i64 1)
  have hb' := h.blk.grown hgr (by intro e; injection e with e; exact h.na e)
  have him := h.im.grown hgr (by intro e; injection e with e; exact h.ne e)
  have d0' : W'.cell? ⟨g.ba, 0, none⟩ = some (.map (some g.bm)) := hb'.cell 0
  have d1' : W'.cell? ⟨g.ba, 1, none⟩ = some (.map (some g.bc)) := hb'.cell 1
  have hs := sayS_look h p him
  have HF := Lib.hid (show GAt W' g (iput cn p (.int .i64 1)) from ⟨hb', him, hic, h.ne, h.na, h.str⟩)
  have HG := Lib.hid (And.intro hgr hsz)
  clear h h0 hic hgr hsz hb' him
  simp only [Bool.false_eq_true, if_false] at hl
  go_enter Try.func12, Try.ntmps12
  go_wp2
  go_returns
  exact ⟨rfl, HF.out, HG.out.1, HG.out.2⟩
end Go.Proofs.Ytlgnhnjnkhnoiaa
