/- Shared, Pages and Equal, by contracts. -/
import Derived.Test.YtlgnhnjnkhnoiaaA9
import Derived.Stop.BytesEq
import Derived.LaidEqlPtr
namespace Go.Proofs.Ytlgnhnjnkhnoiaa
open Go.RowKit
set_option maxRecDepth 100000
/-- The number of pages that are shared. -/
def shB (x y : Sl) : Bool := match x.copy with | none => false | some f => y.copy == some f
def shN (sa sb : SS) : Nat → Nat
  | 0 => 0
  | k + 1 => shN sa sb k + if shB (sa k) (sb k) = true then 1 else 0
theorem shN_le (sa sb : SS) (k : Nat) : shN sa sb k ≤ k := by
  induction k with
  | zero => exact Nat.le_refl _
  | succ k ih => unfold shN; split <;> omega
theorem eql_pf (w : World) (f g : Nat) (ca cb : Array Value) (hf : Blk w f 92 ca) (hg : Blk w g 92 cb) : (binOp .eql 82 (.pointer (some ⟨f, 0, none⟩)) (.pointer (some ⟨g, 0, none⟩))).run Try.prog w = .ok (.bool (f == g)) w := by
  obtain ⟨i, hi, hz0, hz1, hz2⟩ := info_parts (show (Try.prog.info? 92).map (fun i => (i.zero, i.size, i.bytes)) = some (some (.agg Z64), 64, 64) by kernel_rfl)
  by_cases h : f = g
  · subst h
    rw [run_eql_ptr_same w _ Try.underlying82 hi]
    simp
  · rw [run_eql_ptr_other (a := ⟨f, 0, none⟩) (b := ⟨g, 0, none⟩) (ta := 92) (tb := 92) (ca := ca) (cb := cb) w Try.underlying82 hi (by rw [hz1]; decide) (by intro e; injection e with e; exact h e) hf hg]
    simp [h]
theorem eql_pn (w : World) (f : Nat) : (binOp .eql 82 (.pointer (some ⟨f, 0, none⟩)) (.pointer none)).run Try.prog w = .ok (.bool false) w := by kernel_rfl
theorem shared_any (ba bb : Nat) (Sa Sb : Option Gsrc) (σa σb : ST) (W : World) (ha : SpA W ba Sa σa) (hb : SpA W bb Sb σb) :
    Calls Try.prog 13 #[.pointer (some ⟨ba, 0, none⟩), .pointer (some ⟨bb, 0, none⟩)] W fun e w' => e = .returned (.int .i64 (shN σa.sl σb.sl 64 : Nat)) ∧ W = w' := by
  have ca : ∀ k, k < 64 → W.cell? ⟨ba, 1 + k * 5 + 4, none⟩ = some (pf (σa.sl k).copy) := fun k hk => slot_copy ha k hk
  have cb : ∀ k, k < 64 → W.cell? ⟨bb, 1 + k * 5 + 4, none⟩ = some (pf (σb.sl k).copy) := fun k hk => slot_copy hb k hk
  have hfr : ∀ k f g, k < 64 → (σa.sl k).copy = some f → (σb.sl k).copy = some g → (binOp .eql 82 (.pointer (some ⟨f, 0, none⟩)) (.pointer (some ⟨g, 0, none⟩))).run Try.prog W = .ok (.bool (f == g)) W := fun k f g hk hf hg => by
    obtain ⟨_, h1⟩ := ha.ok k hk f hf
    obtain ⟨_, h2⟩ := hb.ok k hk g hg
    exact eql_pf W f g _ _ (ha.fr.at_ f _ h1).2 (hb.fr.at_ g _ h2).2
  have CA := Lib.hid ca; have CB := Lib.hid cb; have HFr := Lib.hid hfr
  clear ca cb ha hb hfr
  generalize σa.sl = sa at CA HFr ⊢
  generalize σb.sl = sb at CB HFr ⊢
  have nq1 := neq_frame; have nq2 := neq_none; have eq2 := eql_pn
  go_enter Try.func13, Try.ntmps13
  go_wp2
  go_loop [5, 14] (fun v5 v => ∃ k : Nat, k ≤ 64 ∧ v = .int .i64 (k : Nat) ∧ v5 = .int .i64 (shN sa sb k : Nat)) (fun _ v => 64 - (intOf v).toNat)
  case atStart => exact ⟨0, by omega, rfl, rfl⟩
  case round =>
    obtain ⟨k, hk, rfl, rfl⟩ := hrel
    have hle := shN_le sa sb k
    by_cases hlt : k < 64
    · have a4 := CA.out k hlt
      have b4 := CB.out k hlt
      have HS := Lib.hid (show shN sa sb (k + 1) = shN sa sb k + if shB (sa k) (sb k) = true then 1 else 0 from rfl)
      generalize shN sa sb k = m at hle HS ⊢
      cases hca : (sa k).copy with
      | none =>
        rw [hca] at a4
        simp only [pf, Option.map_none] at a4
        have HE := Lib.hid (show shN sa sb (k + 1) = m by rw [HS.out]; unfold shB; rw [hca]; rfl)
        clear hca b4
        go_wp2
        go_round
        case rel => exact ⟨k + 1, by omega, by go_num, by rw [HE.out]⟩
        case measure => simp [intOf]; omega
      | some f =>
        rw [hca] at a4
        simp only [pf, Option.map_some] at a4
        cases hcb : (sb k).copy with
        | none =>
          rw [hcb] at b4
          simp only [pf, Option.map_none] at b4
          have HE := Lib.hid (show shN sa sb (k + 1) = m by rw [HS.out]; unfold shB; rw [hca, hcb]; rfl)
          clear hca hcb
          go_wp2
          go_round
          case rel => exact ⟨k + 1, by omega, by go_num, by rw [HE.out]⟩
          case measure => simp [intOf]; omega
        | some g =>
          rw [hcb] at b4
          simp only [pf, Option.map_some] at b4
          have eq1 := HFr.out k f g hlt hca hcb
          by_cases hfg : f = g
          · have e0 : (f == g) = true := by simp [hfg]
            have HE := Lib.hid (show shN sa sb (k + 1) = m + 1 by rw [HS.out]; unfold shB; rw [hca, hcb, hfg]; simp)
            clear hca hcb hfg
            go_wp2
            go_round
            case rel => exact ⟨k + 1, by omega, by go_num, by rw [HE.out]; go_num⟩
            case measure => simp [intOf]; omega
          · have e0 : (f == g) = false := by simp [hfg]
            have HE := Lib.hid (show shN sa sb (k + 1) = m by rw [HS.out]; unfold shB; rw [hca, hcb]; simp [show ¬ g = f from fun e => hfg e.symm])
            clear hca hcb hfg
            go_wp2
            go_round
            case rel => exact ⟨k + 1, by omega, by go_num, by rw [HE.out]⟩
            case measure => simp [intOf]; omega
    · obtain rfl : k = 64 := by omega
      go_wp2
      go_returns
      exact ⟨rfl, rfl⟩
end Go.Proofs.Ytlgnhnjnkhnoiaa
