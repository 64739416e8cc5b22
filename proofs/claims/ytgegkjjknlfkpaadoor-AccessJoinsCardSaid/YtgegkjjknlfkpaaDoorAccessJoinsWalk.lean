/- The law AccessJoins, walked. -/
import Derived.Test.YtgegkjjknlfkpaaDoorJoins
import Derived.Test.YtgegkjjknlfkpaaDoorKnown
import Derived.Test.YtgegkjjknlfkpaaDoorRun
namespace Go.Proofs.YtgegkjjknlfkpaaDoor
open Go.RowKit
set_option maxRecDepth 100000
theorem applyM_le (m : Nat) (s : List UInt8) (hm : m ≤ 2047) : (applyM m s).1 ≤ 2047 := by
  unfold applyM
  split
  · omega
  · split
    · have := apF_lt (clz (s.length + 1) s 0).1 m (by omega); omega
    · omega
theorem cut40 (x : List UInt8) : (str x).extract 0 (min x.length 40) = str (x.take 40) := by
  rw [str_extract]; congr 1
  rw [Nat.sub_zero, List.drop_zero]
  rcases Nat.le_total x.length 40 with h | h
  · rw [Nat.min_eq_left h, List.take_of_length_le (Nat.le_refl _), List.take_of_length_le h]
  · rw [Nat.min_eq_right h]
set_option maxHeartbeats 2000000 in
theorem accessJoins_walk (q : Nat) (x y : List UInt8) (w : World) (hg : Glob w) (hq : q < 65536) (h1 : (str x).size ≤ 9223372036854775807) (h2 : (str y).size ≤ 9223372036854775807) :
    Calls Tryd.prog 5 #[.int .u16 (q : Nat), .string (str x), .string (str y)] w fun e w' => e = .returned (.bool true) ∧ Below w.heap.size w w' := by
  have HG := Lib.hid hg; clear hg
  rw [str_size] at h1 h2
  obtain ⟨i, hi⟩ : ∃ i : Nat, i = min x.length 40 := ⟨_, rfl⟩
  obtain ⟨j, hj⟩ : ∃ j : Nat, j = min y.length 40 := ⟨_, rfl⟩
  have hx := cut40 x; have hy := cut40 y
  rw [← hi] at hx; rw [← hj] at hy
  have m1 : min ((((str x).size : Nat)) : Int) 40 = (i : Nat) := by rw [str_size]; omega
  have m2 : min ((((str y).size : Nat)) : Int) 40 = (j : Nat) := by rw [str_size]; omega
  have b1 : i ≤ (str x).size := by rw [str_size]; omega
  have b2 : j ≤ (str y).size := by rw [str_size]; omega
  have l1 : (x.take 40).length ≤ 40 := by simp; omega
  have l2 : (y.take 40).length ≤ 40 := by simp; omega
  generalize x.take 40 = x1 at hx l1
  generalize y.take 40 = y1 at hy l2
  generalize str x = sx at hx m1 b1 ⊢
  generalize str y = sy at hy m2 b2 ⊢
  have hm : q % 2048 ≤ 2047 := by omega
  have hqm : (q : Int) % 2048 = ((q % 2048 : Nat) : Int) := rfl
  generalize q % 2048 = m at hm hqm
  have HL := Lib.hid (joins_law x1 y1 m l1 l2)
  have HA := Lib.hid (applyM_le m x1 hm)
  have c1 : str x1 ++ ⟨#[44]⟩ ++ str y1 = str (x1 ++ 44 :: y1) := by
    rw [show (⟨#[44]⟩ : ByteArray) = str [44] from rfl, str_append, str_append]; simp
  have z1 : (str x1).size ≤ 40 := l1
  have z2 : (str y1).size ≤ 40 := l2
  clear hi hj h1 h2
  go_enter Tryd.func5, Tryd.ntmps5
  go_wp2
  go_quiet (fail)
  have hb0 : Below w.heap.size w (w.drewN nq) := below_drewN (Below.refl _ _) nq
  generalize w.drewN nq = W1 at hb0 ⊢
  have HB0 := Lib.hid hb0; clear hb0
  go_wp2_with fail
  refine (apply_any m x1 W1 (HG.out.after HG.out.lt HB0.out) hm).mono ?_
  rintro e W2 ⟨rfl, hb⟩
  have HB1 := Lib.hid (bl_tr HB0.out hb); clear hb
  generalize hA : applyM m x1 = ra at HL HA ⊢
  obtain ⟨a1, a2, a3⟩ := ra
  simp only at HA HL ⊢
  clear hA
  go_wp2_with fail
  refine (apply_any a1 y1 W2 (HG.out.after HG.out.lt HB1.out) HA.out).mono ?_
  rintro e W3 ⟨rfl, hb⟩
  have HB2 := Lib.hid (bl_tr HB1.out hb); clear hb
  generalize hA : applyM a1 y1 = rb at HL ⊢
  obtain ⟨b1', b2', b3⟩ := rb
  simp only at HL ⊢
  clear hA
  go_wp2_with fail
  refine (apply_any m (x1 ++ 44 :: y1) W3 (HG.out.after HG.out.lt HB2.out) hm).mono ?_
  rintro e W4 ⟨rfl, hb⟩
  have HB3 := Lib.hid (bl_tr HB2.out hb); clear hb
  generalize hA : applyM m (x1 ++ 44 :: y1) = rc at HL ⊢
  obtain ⟨d1, d2, d3⟩ := rc
  simp only at HL ⊢
  clear hA
  by_cases hok : a3 = 0 ∧ b3 = 0
  · obtain ⟨h1, h2⟩ := HL.out.1 hok
    obtain ⟨rfl, rfl⟩ := hok
    subst h1; subst h2
    clear HL
    go_wp2_with fail
    refine (known_any W4 (HG.out.after HG.out.lt HB3.out)).mono ?_
    rintro e W5 ⟨rfl, hb⟩
    have HB4 := Lib.hid (bl_tr HB3.out hb); clear hb
    go_wp2
    go_returns
    exact ⟨rfl, HB4.out⟩
  · obtain ⟨h1, h2⟩ := HL.out.2 hok
    subst h1; subst h2
    clear HL
    by_cases ha : a3 = 0
    · have e0 : ((a3 : Int) != 0) = false := by simp [ha]
      have e1 : ((b3 : Int) != 0) = true := by simp; intro h; exact hok ⟨ha, h⟩
      clear hok ha
      go_wp2_with fail
      refine (known_any W4 (HG.out.after HG.out.lt HB3.out)).mono ?_
      rintro e W5 ⟨rfl, hb⟩
      have HB4 := Lib.hid (bl_tr HB3.out hb); clear hb
      go_wp2
      go_returns
      exact ⟨rfl, HB4.out⟩
    · have e0 : ((a3 : Int) != 0) = true := by simp [ha]
      clear hok ha
      go_wp2_with fail
      refine (known_any W4 (HG.out.after HG.out.lt HB3.out)).mono ?_
      rintro e W5 ⟨rfl, hb⟩
      have HB4 := Lib.hid (bl_tr HB3.out hb); clear hb
      go_wp2
      go_returns
      exact ⟨rfl, HB4.out⟩
end Go.Proofs.YtgegkjjknlfkpaaDoor
