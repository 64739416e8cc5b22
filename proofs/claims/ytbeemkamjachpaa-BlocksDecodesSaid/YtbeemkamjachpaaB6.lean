/- The iterator over the blocks in some states, by a contract. -/
import Derived.RangeFuncNested
import Derived.RangeFuncBound
import Derived.RangeFuncCalls
import Derived.RangeFuncLeaves
import Derived.Shelf.Abstract
import Derived.Shelf.RegionOpen
import Derived.Sort.QuietIn
import Derived.WalkKit
import Derived.OwnWalkIn
import Derived.TacticsInMore
import Derived.LoopNIn
import Derived.LoopIn
import Derived.Test.YtbeemkamjachpaaB5
namespace Go.Proofs.Ytbeemkamjachpaa
open Go.RowKit Go.Shelf
set_option maxRecDepth 100000
attribute [local go_sem] Oper.semAt_some
/-- The blocks in some of the states t, of the first k. -/
def inL (f : Nat) (l : List UInt8) (t : List Int) (k : Nat) : List Int := ((List.range k).filter fun j => decide (((l.getD j 0).toNat : Int) ∈ t)).map fun j => (f : Int) + (j : Nat)
theorem inL_succ (f : Nat) (l : List UInt8) (t : List Int) (k : Nat) : inL f l t (k + 1) = inL f l t k ++ if ((l.getD k 0).toNat : Int) ∈ t then [(f : Int) + (k : Nat)] else [] := by
  unfold inL
  rw [List.range_succ, List.filter_append, List.map_append]
  congr 1
  by_cases h : ((l.getD k 0).toNat : Int) ∈ t
  · rw [if_pos h, List.filter_cons, if_pos (decide_eq_true h)]; rfl
  · rw [if_neg h, List.filter_cons, if_neg (by rw [decide_eq_false h]; decide)]; rfl
theorem inL_len (f : Nat) (l : List UInt8) (t : List Int) (k : Nat) : (inL f l t k).length ≤ k := by
  unfold inL
  rw [List.length_map]
  have := List.length_filter_le (fun j => decide (((l.getD j 0).toNat : Int) ∈ t)) (List.range k)
  simpa using this
theorem MpAt.kept {S : Nat → Prop} {W W' : World} {b s f : Nat} {l : List UInt8} (h : MpAt W b s f l) (hk : Keep S W W') (hb : ¬ S b) (hs : ¬ S s) : MpAt W' b s f l := by
  obtain ⟨c, c1, c2, h1⟩ := h.blk
  obtain ⟨m, h2⟩ := h.st
  exact ⟨⟨c, c1, c2, h1.kept hk hb⟩, ⟨m, h2.kept hk hs⟩, h.f1, h.n1⟩
theorem Keep.cell {S : Nat → Prop} {W W' : World} (hk : Keep S W W') {p : Addr} {v : Value} (h : W.cell? p = some v) (hs : ¬ S p.block) : W'.cell? p = some v :=
  (World.cell?_of_block (hk.block _ (block_lt h) hs)).trans h
theorem wide_fn (f : FuncId) : Fence.wide.fn f := trivial
theorem grown_drew (w : World) : w.grownBy w.drew none := ⟨rfl, rfl, rfl, Nat.le_refl _, fun _ _ _ => rfl⟩
set_option maxHeartbeats 4000000 in
theorem in1_in (n : Nat) (hn : 1 ≤ n) (y B1 B2 b s f : Nat) (S : Nat → Prop) (l : List UInt8) (A : Option Addr) (m c : Nat) (t : List Int) (J Jx : List Int → World → Prop)
    (sb : ¬ S b) (ss : ¬ S s) (s1 : ¬ S B1) (s2 : ¬ S B2) (sA : 0 < m → ∀ ad, A = some ad → ¬ S ad.block) (hJd : ∀ pre W d, J pre W → J pre (W.drewN d))
    (hY : ∀ k W, k < l.length → ((l.getD k 0).toNat : Int) ∈ t → J (inL f l t k) W → YieldAt Fence.wide (n - 1) Try.prog y #[.int .i64 ((f : Int) + (k : Nat))] W fun e W' =>
      (e = .returned (.bool true) ∧ J (inL f l t k ++ [(f : Int) + (k : Nat)]) W' ∧ Keep S W W') ∨ (e = .returned (.bool false) ∧ Jx (inL f l t k ++ [(f : Int) + (k : Nat)]) W'))
    (W : World) (hB1 : W.cell? ⟨B1, 0, none⟩ = some (.pointer (some ⟨b, 0, none⟩))) (hB2 : W.cell? ⟨B2, 0, none⟩ = some (.slice A m c)) (hm : MpAt W b s f l) (ht : Rd W W.heap.size LI A m t) (hml : m ≤ 9223372036854775806) (h0 : J [] W) :
    CallsIn Fence.wide n Try.prog 66 #[.func (.yield y) #[] #[], .pointer (some ⟨B1, 0, none⟩), .pointer (some ⟨B2, 0, none⟩)] W fun e W' => (∃ v, e = .returned v) ∧
      ((∃ ys, ys = inL f l t l.length ∧ J ys W') ∨ (∃ pre, (∃ k, k ≤ l.length ∧ pre = inL f l t k) ∧ Jx pre W')) := by
  refine callsIn_of_wp Try.func66 rfl trivial ?_ rfl
  simp only [Try.ntmps66, List.size_toArray, List.length_cons, List.length_nil, Nat.reduceAdd, Nat.reduceSub, Array.replicate_succ, Array.replicate_zero, List.push_toArray, List.append_toArray, List.nil_append, List.cons_append]
  gi_wp2_with (refine ⟨trivial, ?_⟩; gi_at_call 22; refine (callsIn_wide.2 (count_any b s f l W hm)).mono ?_; rintro e w' ⟨rfl, rfl⟩)
  gi_loopw [7] (fun i wr => ∃ k : Nat, k ≤ l.length ∧ i = .int .i64 (k : Nat) ∧ J (inL f l t k) wr ∧ Keep S W wr) (fun i _ => l.length - (intOf i).toNat)
  case atStart => exact ⟨0, Nat.zero_le _, rfl, h0, Keep.refl _ _⟩
  case round =>
    obtain ⟨k, hk, rfl, hJs, hkp⟩ := hrel
    have HK := Lib.hid hkp
    by_cases hlt : k < l.length
    · have hm1 := hm.kept hkp sb ss
      have ht1 : Rd wr wr.heap.size LI A m t := (ht.kept hkp (Nat.le_refl _) sA).more hkp.size
      have b1 : wr.cell? ⟨B1, 0, none⟩ = some (.pointer (some ⟨b, 0, none⟩)) := hkp.cell hB1 s1
      have b2 : wr.cell? ⟨B2, 0, none⟩ = some (.slice A m c) := hkp.cell hB2 s2
      have hc := hm1.cell hlt
      obtain ⟨cap, hc1, hc2, hblk⟩ := hm1.blk
      have d0 : wr.cell? ⟨b, 0, none⟩ = some (.int .i64 (f : Nat)) := hblk.cell 0
      have d1 : wr.cell? ⟨b, 1, none⟩ = some (.slice (some ⟨s, 0, none⟩) l.length cap) := hblk.cell 1
      have hf := hm1.f1; have hnn := hm1.n1
      have hst := inL_succ f l t k
      have hlen := inL_len f l t k
      have hq4 : (l.getD k 0).toNat < 256 := (l.getD k 0).toNat_lt
      have hYk := hY k wr.drew hlt
      generalize (l.getD k 0).toNat = q at hc hst hq4 hYk
      have hwq : IntKind.i64.wrap (q : Int) = (q : Int) := by rw [IntKind.wrap_i64]; omega
      have hct := callsIn_wide (n := n - 1).2 (contains_any A m c t (q : Int) wr.drew ht1 hml)
      by_cases hin : (q : Int) ∈ t
      · rw [decide_eq_true hin] at hct
        rw [if_pos hin] at hst
        have hY1 : YieldAt Fence.wide (n - 1) Try.prog y #[.int .i64 ((f : Int) + (k : Nat))] wr.drew fun e W' => ∃ r, e = .returned (.bool r) ∧ (r = true ∧ J (inL f l t (k + 1)) W' ∧ Keep S W W' ∨ r = false ∧ Jx (inL f l t (k + 1)) W') := by
          refine (hYk hin (hJd _ wr 1 hJs)).mono ?_
          rintro e W' (⟨rfl, h1, h2⟩ | ⟨rfl, h1⟩)
          · exact ⟨true, rfl, .inl ⟨rfl, by rw [hst]; exact h1, hkp.drew.trans h2 fun _ _ h => h⟩⟩
          · exact ⟨false, rfl, .inr ⟨rfl, by rw [hst]; exact h1⟩⟩
        have HC := Lib.hid hct
        obtain ⟨fn, tmps, assign, body, hy, hR⟩ := hY1
        have hwk : IntKind.i64.wrap ((f : Int) + (k : Nat)) = (f : Int) + (k : Nat) := by rw [IntKind.wrap_i64]; omega
        have HR := Lib.hid hR
        clear hct hin hY hYk hkp hm1 ht1 hblk hR hlen hst hJs hm ht hB1 hB2 h0 hJd
        gi_wp2
        first
        | gi_region_with (first | (refine ⟨trivial, ?_⟩; gi_at_call 67; (try rw [hwq]); refine (HC.out).mono ?_; rintro e w' ⟨rfl, rfl⟩) | (gi_at_call 67; refine (HC.out).mono ?_; rintro e w' ⟨rfl, rfl⟩) | (with_reducible refine RoundIn.mono HR.out ?_; rintro e w' ⟨r, rfl, hq⟩; have HQ := Lib.hid hq; clear hq))
        all_goals
          rcases HQ.out with ⟨rfl, h1, h2⟩ | ⟨rfl, h1⟩
          · have HF := Lib.hid (And.intro h1 h2)
            clear h1 h2 HQ
            gi_wp2
            go_roundw
            case rel => exact ⟨k + 1, by omega, by go_num, HF.out.1, HF.out.2⟩
            case measure => simp [intOf]; omega
          · have HF := Lib.hid h1
            clear h1 HQ
            gi_wp2
            refine bodyPost_ret (results_none rfl _ _ _) rfl ?_
            exact ⟨⟨_, rfl⟩, .inr ⟨_, ⟨k + 1, by omega, rfl⟩, HF.out⟩⟩
      · rw [if_neg hin, List.append_nil] at hst
        rw [decide_eq_false hin] at hct
        have hcq : ∀ d, CallsIn Fence.wide (n - 1) Try.prog 67 #[.slice A m c, .int .i64 (q : Int)] (wr.drewN d) fun e w' => e = .returned (.bool false) ∧ w' = wr.drewN d := fun d => by
          have h := callsIn_wide (n := n - 1).2 (contains_any A m c t (q : Int) (wr.drewN d) (ht1.drewN d) hml)
          rw [decide_eq_false hin] at h
          exact h.mono fun _ _ hh => ⟨hh.1, hh.2.symm⟩
        have HC := Lib.hid hcq
        have HJ := Lib.hid hJs
        rw [← hst] at HJ
        have HD := Lib.hid hJd
        clear hcq hct hin hY hYk hkp hm1 ht1 hblk hlen hst hJs hm ht hB1 hB2 h0 hJd
        gi_wp2
        have hwf := wide_fn
        gi_quiet ((gi_at_call 67; (try rw [hwq]); exact CallsIn.quiet_of_same (HC.out _)))
        have HJ' := Lib.hid (HD.out _ _ nq HJ.out)
        have HK' := Lib.hid (HK.out.drewN nq)
        clear HJ HD HK HC hwf
        generalize wr.drewN nq = w1 at HJ' HK' ⊢
        gi_wp2
        go_roundw
        case rel => exact ⟨k + 1, by omega, by go_num, HJ'.out, HK'.out⟩
        case measure => simp [intOf]; omega
    · obtain rfl : k = l.length := by omega
      have HJ := Lib.hid hJs
      clear hJs hY hJd h0 hm ht
      gi_wp2
      go_end0
      exact ⟨⟨_, rfl⟩, .inl ⟨_, rfl, HJ.out⟩⟩
end Go.Proofs.Ytbeemkamjachpaa
