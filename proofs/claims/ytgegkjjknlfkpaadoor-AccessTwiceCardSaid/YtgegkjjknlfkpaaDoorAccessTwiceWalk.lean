/- The law AccessTwice, walked. -/
import Derived.Test.YtgegkjjknlfkpaaDoorTwice
import Derived.Test.YtgegkjjknlfkpaaDoorRCls
import Derived.Test.YtgegkjjknlfkpaaDoorRefA
import Derived.Test.YtgegkjjknlfkpaaDoorAccessJoinsWalk
namespace Go.Proofs.YtgegkjjknlfkpaaDoor
open Go.RowKit
set_option maxRecDepth 100000
set_option maxHeartbeats 2000000 in
theorem accessTwice_walk (q : Nat) (s : List UInt8) (w : World) (hg : Glob w) (hq : q < 65536) (h1 : (str s).size ≤ 9223372036854775807) :
    Calls Tryd.prog 4 #[.int .u16 (q : Nat), .string (str s)] w fun e w' => e = .returned (.bool true) ∧ Below w.heap.size w w' := by
  have HG := Lib.hid hg; clear hg
  rw [str_size] at h1
  obtain ⟨i, hi⟩ : ∃ i : Nat, i = min s.length 40 := ⟨_, rfl⟩
  have hx := cut40 s
  rw [← hi] at hx
  have m1 : min ((((str s).size : Nat)) : Int) 40 = (i : Nat) := by rw [str_size]; omega
  have b1 : i ≤ (str s).size := by rw [str_size]; omega
  have l1 : (s.take 40).length ≤ 40 := by simp; omega
  generalize s.take 40 = x1 at hx l1
  generalize str s = sx at hx m1 b1 ⊢
  have hm : q % 2048 ≤ 2047 := by omega
  have hqm : (q : Int) % 2048 = ((q % 2048 : Nat) : Int) := rfl
  generalize q % 2048 = m at hm hqm
  have HR := Lib.hid (rclauses_any x1 (by omega) w)
  have HA := Lib.hid (applyM_one m x1 (by omega))
  have HA2 := Lib.hid (fun a => applyM_one a x1 (by omega))
  generalize clz (x1.length + 1) x1 0 = res at HR HA HA2
  obtain ⟨cl, off, ok⟩ := res
  clear hi h1
  go_enter Tryd.func4, Tryd.ntmps4
  go_wp2_with fail
  refine HR.out.mono ?_
  rintro e W1 ⟨A, n, c', rfl, hown, hb1⟩
  have HG1 := Lib.hid (HG.out.after HG.out.lt hb1)
  have hn := hown.cap.1
  have HO := Lib.hid hown; have HB1 := Lib.hid hb1
  clear hown hb1
  cases ok
  · have hat : atN (cl, off, false) = (off : Int) := rfl
    rw [hat]
    have e0 : decide ((0 : Int) ≤ (off : Int)) = true := by simp
    clear hat hn
    go_wp2_with fail
    refine (known_any W1 HG1.out).mono ?_
    rintro e W2 ⟨rfl, hb⟩
    have HB2 := Lib.hid (bl_tr HB1.out hb); clear hb
    go_wp2
    go_returns
    exact ⟨rfl, HB2.out⟩
  have hat : atN (cl, off, true) = -1 := rfl
  rw [hat]
  clear hat
  by_cases hone : n = 1
  · subst hone
    obtain ⟨c, rfl⟩ := List.length_eq_one_iff.1 hn
    have ha1 := HA.out c rfl rfl
    have ha2 := HA2.out (ap1 m c) c rfl rfl
    obtain ⟨t1, t2⟩ := twice_law m c (by omega)
    have hlt := ap1_lt m c (by omega)
    rw [t1] at ha2
    have HT := Lib.hid t2
    generalize ap1 m c = a at ha1 ha2 hlt HT
    have H1 := Lib.hid ha1; have H2 := Lib.hid ha2
    clear ha1 ha2 t1 t2 hn HA HA2
    have hal : a ≤ 2047 := by omega
    clear hlt
    go_wp2_with fail
    have hap := apply_any m x1 W1 HG1.out hm
    rw [H1.out] at hap
    refine hap.mono ?_
    rintro e W2 ⟨rfl, hb⟩
    have HB2 := Lib.hid (bl_tr HB1.out hb); have HO2 := Lib.hid (HO.out.after hb); clear hb hap
    have HG2 := Lib.hid (HG.out.after HG.out.lt HB2.out)
    go_wp2_with fail
    have hap := apply_any a x1 W2 HG2.out hal
    rw [H2.out] at hap
    refine hap.mono ?_
    rintro e W3 ⟨rfl, hb⟩
    have HB3 := Lib.hid (bl_tr HB2.out hb); have HO3 := Lib.hid (HO2.out.after hb); clear hb hap
    have HG3 := Lib.hid (HG.out.after HG.out.lt HB3.out)
    go_wp2_with fail
    refine (known_any W3 HG3.out).mono ?_
    rintro e W4 ⟨rfl, hb⟩
    have HB4 := Lib.hid (bl_tr HB3.out hb); have HO4 := Lib.hid (HO3.out.after hb); clear hb
    have HG4 := Lib.hid (HG.out.after HG.out.lt HB4.out)
    obtain ⟨g, rfl, -, -, hcell, -⟩ := HO4.out.form0 (by omega)
    have d0 : W4.cell? ⟨g, 0, none⟩ = some (.bool (c.cls 0)) := hcell 0 _ rfl
    have d1 : W4.cell? ⟨g, 1, none⟩ = some (.bool (c.cls 1)) := hcell 1 _ rfl
    have d2 : W4.cell? ⟨g, 2, none⟩ = some (.bool (c.cls 2)) := hcell 2 _ rfl
    clear hcell
    go_wp2
    go_loop [14] (fun v => ∃ k : Nat, k ≤ 3 ∧ v = .int .i64 (k : Nat)) (fun v => 3 - (intOf v).toNat)
    case atStart => exact ⟨0, by omega, rfl⟩
    case round =>
      obtain ⟨k, hk, hv⟩ := hrel
      by_cases hk3 : k = 3
      · subst hk3
        rw [show ((3 : Nat) : Int) = 3 from rfl] at hv
        subst hv
        go_wp2
        go_returns
        exact ⟨rfl, HB4.out⟩
      · have hkc : W4.cell? ⟨g, k, none⟩ = some (.bool (c.cls k)) := by
          rcases (show k = 0 ∨ k = 1 ∨ k = 2 by omega) with rfl | rfl | rfl
          · exact d0
          · exact d1
          · exact d2
        clear d0 d1 d2
        subst hv
        cases hcl : c.cls k
        · rw [hcl] at hkc
          have HBits := Lib.hid (HT.out k (by omega) hcl)
          clear hcl
          go_wp2_with fail
          refine (bits_yes a k W4 HG4.out hal (by omega)).mono ?_
          rintro e w' ⟨rfl, rfl⟩
          rw [HBits.out]
          go_wp2_with fail
          refine (rbits_yes m k W4 hm (by omega)).mono ?_
          rintro e w' ⟨rfl, rfl⟩
          go_wp2
          go_round
          case rel => exact ⟨k + 1, by omega, by go_num⟩
          case measure => simp [intOf]; omega
        · rw [hcl] at hkc
          clear hcl
          go_wp2
          go_round
          case rel => exact ⟨k + 1, by omega, by go_num⟩
          case measure => simp [intOf]; omega
  · have e0 : ((n : Int) != 1) = true := by simp; omega
    clear hn hone
    go_wp2_with fail
    refine (known_any W1 HG1.out).mono ?_
    rintro e W2 ⟨rfl, hb⟩
    have HB2 := Lib.hid (bl_tr HB1.out hb); clear hb
    go_wp2
    go_returns
    exact ⟨rfl, HB2.out⟩
end Go.Proofs.YtgegkjjknlfkpaaDoor
