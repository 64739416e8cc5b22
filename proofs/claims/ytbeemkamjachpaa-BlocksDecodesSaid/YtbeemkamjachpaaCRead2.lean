/- The Reader's inner functions signed and Text's closure, by contracts. -/
import Derived.Test.YtbeemkamjachpaaCRead
import Derived.Test.YtbeemkamjachpaaMem2
namespace Go.Proofs.Ytbeemkamjachpaa
open Go.RowKit
set_option maxRecDepth 100000
theorem grp_pos (l : List UInt8) (m : Nat) (h : (grp l m).2.2 = 0) : 0 < (grp l m).2.1 := by
  unfold grp at h ⊢
  split at h
  · cases h
  · rename_i h1
    rw [if_neg h1]
    split at h
    · cases h
    · rename_i h2
      rw [if_neg h2]
      split at h
      · cases h
      · rename_i h3
        rw [if_neg h3]
        exact Nat.succ_pos _
set_option maxHeartbeats 1000000 in
theorem text1_any (A : Option Addr) (n c : Nat) (l : List UInt8) (bx : Addr) (most : Int) (w : World) (hr : Rd w w.heap.size L8 A n l) (hnc : n ≤ c) (hc : c ≤ 9223372036854775807) (hb : w.cell? bx = some (.int .i64 most)) :
    Calls Try.prog 74 #[.slice A n c, .pointer (some bx)] w fun e w' => e = .returned (.tuple #[.string (str (rText most l).1), .int .i64 ((rText most l).2.1 : Nat), .int .i64 ((rText most l).2.2 : Nat)]) ∧ w = w' := by
  have hs := grp_size l 9
  have hsm := grp_small l
  have hpos := grp_pos l 9
  generalize hg : grp l 9 = g at hs hsm hpos
  have Hg := Lib.hid hg; clear hg
  obtain ⟨g1, g2, g3⟩ := g
  simp only at hs hsm hpos
  have hl := hr.len
  have hg2n : g2 ≤ n := by omega
  have HP := Lib.hid hpos; clear hpos
  by_cases h3 : g3 = 0
  · subst h3
    generalize hmm : min most 16777216 = mm
    have HM := Lib.hid hmm
    by_cases hm : mm < (g1 : Int)
    · have hR : rText most l = ([], 0, 5) := by unfold rText; rw [Hg.out, if_neg (by simp), hmm, if_pos hm]
      have HR := Lib.hid hR; clear hR hl
      go_enter Try.func74, Try.ntmps74
      go_wp2_with fail
      refine (parse_any A n c l w hr (by omega)).mono ?_
      rintro e w' ⟨rfl, rfl⟩
      rw [Hg.out]
      go_wp2
      go_returns
      rw [HR.out]
      exact ⟨rfl, rfl⟩
    · have hR0 : rText most l = if l.length < g1 + g2 then ([], 0, 28) else ((l.drop g2).take g1, g2 + g1, 0) := by unfold rText; rw [Hg.out, if_neg (by simp), hmm, if_neg hm]
      by_cases hlen : n < g1 + g2
      · have hR : rText most l = ([], 0, 28) := by rw [hR0, if_pos (by omega)]
        have HR := Lib.hid hR
        have hlen' : (n : Int) - (g2 : Int) < (g1 : Int) := by omega
        clear hR hR0 hl
        go_enter Try.func74, Try.ntmps74
        go_wp2_with fail
        refine (parse_any A n c l w hr (by omega)).mono ?_
        rintro e w' ⟨rfl, rfl⟩
        rw [Hg.out]
        go_wp2
        go_returns
        rw [HR.out]
        exact ⟨rfl, rfl⟩
      · have hR : rText most l = ((l.drop g2).take g1, g2 + g1, 0) := by rw [hR0, if_neg (by omega)]
        have HR := Lib.hid hR
        have hp2 := HP.out rfl
        obtain ⟨b, o, rfl, _, _⟩ := hr.form (by omega)
        have hle : g1 ≤ n - g2 := by omega
        by_cases hcg : c = g2
        · have hg1 : g1 = 0 := by omega
          subst hg1
          subst hcg
          clear hR hR0 hl
          go_enter Try.func74, Try.ntmps74
          go_wp2_with fail
          refine (parse_any _ n c l w hr (by omega)).mono ?_
          rintro e w' ⟨rfl, rfl⟩
          rw [Hg.out]
          go_wp2_with (refine conv_b rfl 78 9 (.tmp 36) rfl Try.underlying78 Try.underlying5 Try.underlying9 [] rfl (Rd.none_ (B := 0)) ?_)
          go_wp2
          go_returns
          rw [HR.out]
          exact ⟨rfl, rfl⟩
        · have hr2 := hr.sub (i := g2) (j := g2 + g1) (c := c) (by omega) (by omega) hnc
          rw [show g2 + g1 - g2 = g1 by omega, if_neg hcg] at hr2
          have hr3 : Rd w w.heap.size L8 (some ⟨b, o + g2, none⟩) g1 ((l.drop g2).take g1) := by
            have e : (Addr.add ⟨b, o, none⟩ (g2 * L8.size)) = ⟨b, o + g2, none⟩ := by unfold Addr.add; simp only [L8, Nat.mul_one]; rw [if_neg (by omega)]
            simpa [e] using hr2
          have HR2 := Lib.hid hr3
          clear hR hR0 hl hr2 hr3
          go_enter Try.func74, Try.ntmps74
          go_wp2_with fail
          refine (parse_any _ n c l w hr (by omega)).mono ?_
          rintro e w' ⟨rfl, rfl⟩
          rw [Hg.out]
          have hcv : (convert 78 9 (.slice (some ⟨b, o + g2, none⟩) g1 (c - g2))).run Try.prog w = .ok (.string (str ((l.drop g2).take g1))) w := run_conv8 Try.underlying78 Try.underlying5 Try.underlying9 HR2.out
          go_wp2
          go_returns
          rw [HR.out]
          exact ⟨rfl, rfl⟩
  · have hR : rText most l = ([], 0, g3) := by unfold rText; rw [Hg.out, if_pos h3]
    have HR := Lib.hid hR; clear hR hl
    have e3 : ((g3 : Int) != 0) = true := by simp; omega
    go_enter Try.func74, Try.ntmps74
    go_wp2_with fail
    refine (parse_any A n c l w hr (by omega)).mono ?_
    rintro e w' ⟨rfl, rfl⟩
    rw [Hg.out]
    go_wp2
    go_returns
    rw [HR.out]
    exact ⟨rfl, rfl⟩
end Go.Proofs.Ytbeemkamjachpaa
