/- The walk of the law CodecCanonical: one encoding for every value. -/
import Derived.Test.YtogagcdlkhinjaaCanon
import Derived.Test.YtogagcdlkhinjaaVals2
import Derived.Test.YtogagcdlkhinjaaCodecWritesWalk
namespace Go.Proofs.Ytogagcdlkhinjaa
open Go.RowKit
set_option maxRecDepth 100000
set_option maxHeartbeats 2000000 in
theorem codecCanonical_walk (A2 : Option Addr) (n2 c2 : Nat) (b : List UInt8) (A : Option Addr) (n c : Nat) (l : List V) (w : World) (hr : Rd w w.heap.size LV A n l) (hok : ∀ x ∈ l, x.Ok) (hn : n ≤ 9223372036854775807) (hr2 : Rd w w.heap.size L8 A2 n2 b) (hc2 : n2 ≤ c2) (hm2 : c2 ≤ 9223372036854775807) :
    Calls Try.prog 8 #[.slice A2 n2 c2, .slice A n c] w fun e w' => e = .returned (.bool true) ∧ Below w.heap.size w w' := by
  have hsl : ∀ v ∈ l, v.s.length ≤ 9223372036854775807 := fun v hv => by have := (hok v hv).s1; unfold maxLen at this; omega
  have hcut := cut_ok l hok
  have hlen : ((l.take 40).map cutV).length ≤ 40 := by simp; omega
  have hr2' := hr2.upto (k := min n2 1000) (Nat.min_le_left _ _)
  generalize hk : min n2 1000 = k2 at hr2'
  generalize b.take k2 = b2 at hr2'
  have hk2 : k2 ≤ 1000 ∧ k2 ≤ n2 := by omega
  have hmin2 : min (n2 : Int) 1000 = ((k2 : Nat) : Int) := by omega
  have hkc : (k2 : Int) ≤ (c2 : Int) := by omega
  have hk0 : (0 : Int) ≤ (k2 : Int) := by omega
  clear hk hr2
  have hsh : ∀ W, Below w.heap.size w W → Calls Try.prog 16 #[.slice A n c] W fun e w' => ∃ A' m c', e = .returned (.slice A' m c') ∧ Own w' W.heap.size 51 LV (.slice A' m c') ((l.take 40).map cutV) ∧ Below W.heap.size W w' := fun W hW => short_any A n c l W (hr.after hW) hn hsl
  generalize (l.take 40).map cutV = l1 at hcut hlen hsh
  have HSH := Lib.hid hsh; have HC := Lib.hid hcut; have HL := Lib.hid hlen; have HR2 := Lib.hid hr2'
  clear hsl hcut hsh hlen hr2' hok hr
  go_enter Try.func8, Try.ntmps8
  go_wp2
  have k0 : Below w.heap.size w w.drew := (Below.refl _ _).drew
  have k1 : ∀ o, Below w.heap.size w (w.alloc o).drew := fun o => ((Below.refl _ _).alloc (Nat.le_refl _) o).drew
  have K1 := Lib.hid k1
  clear k1
  go_cut [0, 1] (fun v0 v1 W => ∃ A1 n1 c1, v0 = .slice A2 k2 c2 ∧ v1 = .slice A1 n1 c1 ∧ Own W w.heap.size 51 LV (.slice A1 n1 c1) l1 ∧ Below w.heap.size w W)
  case first =>
    go_region_held3 (fun W => Below w.heap.size w W)
      (first
        | assumption
        | exact k0
        | exact K1.out _
        | exact Below.trans (by assumption) (Below.mono hb1 (Below.size (by assumption)))
        | exact Below.alloc (by assumption) (Below.size (by assumption)) _)
      (first
        | (go_at_call 16; refine (HSH.out _ (by assumption)).mono ?_; rintro e w1 ⟨A1, n1, c1, rfl, hown1, hb1⟩))
    all_goals
      go_wp2_with fail
      go_meet
      exact ⟨_, _, _, rfl, rfl, hown1.mono (by simp), by assumption⟩
  case rest =>
    obtain ⟨A1, n1, c1, rfl, rfl, hown1, hb1⟩ := hcut
    have hn1 : n1 ≤ 40 := by have := hown1.cap.1; have := HL.out; omega
    have hb2l : b2.length = k2 := HR2.out.len
    have HO1 := Lib.hid hown1; have HB2 := Lib.hid hb2l; have HB1 := Lib.hid hb1
    clear hown1 hb2l hb1
    go_wp2_with fail
    refine (rnew_any A2 k2 c2 b2 wc (HR2.out.after HB1.out) (by omega)).mono ?_
    rintro e w2 ⟨g2, A3, n3, c3, rfl, hrs2, hg2, hA3, hb2⟩
    have hsc := HB1.out.size
    have hs2 := hb2.size
    have hr2 := HO1.out.rd.after hb2
    have HN3 := Lib.hid hrs2.rd.len
    go_wp2_with fail
    refine (readAll_any g2 A3 n3 c3 b2 A1 n1 c1 l1 w2 hrs2 hr2 (fun h ad had => by have := HO1.out.rd.lt h ad had; omega) hn1).mono ?_
    rintro e w3 ⟨A4, m4, c4, rfl, hown4, hrs4, hk4⟩
    have hb3 : Below wc.heap.size wc w3 := hb2.trans (hk4.below (by omega) fun q hq h => by omega)
    have hfacts : (rall b2 l1).2.2 = 0 → b2.length ≤ (rall b2 l1).2.1 → (rall b2 l1).1.foldl wstep ([], 0) = (b2, 0) ∧ ∀ x ∈ (rall b2 l1).1, x.Ok ∧ x.s.length ≤ 1000 := fun h1 h2 => canonical b2 (by have := HB2.out; omega) l1 (fun v hv => (HC.out v hv).1) h1 h2
    have hrl : (rall b2 l1).1.length = l1.length := by unfold rall; rw [rall_len]; simp
    generalize rall b2 l1 = res at hown4 hrs4 hfacts hrl
    obtain ⟨got, at_, f⟩ := res
    simp only at hown4 hrs4 hfacts hrl
    have HFacts := Lib.hid hfacts; have HRL := Lib.hid hrl; have HO4 := Lib.hid hown4; have HB3 := Lib.hid hb3; have HRS4 := Lib.hid hrs4
    have hm4 : m4 ≤ 40 := by have := hown4.cap.1; have := HL.out; omega
    clear hfacts hrl hown4 hrs2 hb2 hk4 hr2 hb3
    go_wp2_with fail
    refine (rclose_any _ _ _ _ _ _ _ _ hrs4).mono ?_
    rintro e w4 ⟨rfl, j1, rfl⟩
    have HZ := Lib.hid (show closes (n3 - at_) f = 0 → f = 0 ∧ n3 - at_ = 0 by unfold closes; split <;> omega)
    generalize closes (n3 - at_) f = z at HZ ⊢
    clear hrs4
    have hbj : Below w3.heap.size w3 (w3.drewN j1) := below_drewN (Below.refl _ _) _
    by_cases hz : z = 0
    · obtain ⟨hf, hat⟩ := HZ.out hz
      subst hz; subst hf
      obtain ⟨q1, q2⟩ := HFacts.out rfl (by have := HN3.out; omega)
      have Q1 := Lib.hid q1; have Q2 := Lib.hid q2; have HBJ := Lib.hid hbj
      clear q1 q2 hat hbj
      go_wp2_with fail
      refine (new_any _).mono ?_
      rintro e w5 ⟨rfl, hw5, hb5⟩
      have hs5 := hw5.blk.lt
      have hr5 : Rd w5 w5.heap.size LV A4 m4 got := (HO4.out.rd.after HBJ.out).after hb5
      go_wp2_with fail
      refine (writeAll2_any _ _ _ [] 0 A4 m4 c4 got w5 hw5 hr5 (fun h ad had hx => by
        have := HO4.out.rd.lt h ad had
        have := HBJ.out.size
        rcases hx with hx | hx
        · omega
        · cases hx) hm4 Q2.out (by simp)).mono ?_
      rintro e w6 h6
      have hb6 := WPost.belowB hb5 hw5 h6 (Nat.le_refl _)
      obtain ⟨rfl, v6, hw6, _, _⟩ := h6
      rw [Q1.out] at hw6
      simp only at hw6
      clear hb5 hw5 hr5
      go_wp2_with fail
      refine (bytes_any _ _ _ _ _ w6 hw6 (by have := HB2.out; omega)).mono ?_
      rintro e w7 ⟨A7, m7, c7, rfl, hown7, hb7⟩
      have hb37 : Below w3.heap.size w3 w7 := HBJ.out.trans ((hb6.trans (hb7.mono hb6.size)).mono HBJ.out.size)
      have hb17 : Below w.heap.size w w7 := HB1.out.trans ((HB3.out.trans (hb37.mono HB3.out.size)).mono hsc)
      have HO7 := Lib.hid hown7; have HB7 := Lib.hid hb17
      clear hown7 hb37 hb17 hb6 hw6 hb7
      go_wp2_with fail
      refine (known_any w7).mono ?_
      rintro e w8 ⟨rfl, hb8⟩
      have hb18 := HB7.out.trans (hb8.mono HB7.out.size)
      have hcv1 : (convert 22 9 (.slice A7 m7 c7)).run Try.prog w8 = .ok (.string (str (gives b2 0))) w8 := run_conv8 Try.underlying22 Try.underlying5 Try.underlying9 (HO7.out.rd.after hb8)
      have hcv2 : (convert 22 9 (.slice A2 k2 c2)).run Try.prog w8 = .ok (.string (str b2)) w8 := run_conv8 Try.underlying22 Try.underlying5 Try.underlying9 (HR2.out.after hb18)
      rw [show gives b2 0 = b2 from rfl] at hcv1
      have HA := Lib.hid hb18
      clear hb18 hb8
      go_wp2
      go_returns
      exact ⟨rfl, HA.out⟩
    · have e0 : ((z : Int) != 0) = true := by simp; omega
      have hb14 : Below w.heap.size w (w3.drewN j1) := HB1.out.trans ((HB3.out.trans (hbj.mono HB3.out.size)).mono hsc)
      have HB14 := Lib.hid hb14
      clear hbj hb14
      go_wp2_with fail
      refine (known_any _).mono ?_
      rintro e w5 ⟨rfl, hb5⟩
      have HB5 := Lib.hid (HB14.out.trans (hb5.mono HB14.out.size))
      go_wp2
      go_returns
      exact ⟨rfl, HB5.out⟩
end Go.Proofs.Ytogagcdlkhinjaa
