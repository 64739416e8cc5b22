/- The law AccessTexts, walked. -/
import Derived.Test.YtgegkjjknlfkpaaDoorParse
import Derived.Test.YtgegkjjknlfkpaaDoorKnown
import Derived.Test.YtgegkjjknlfkpaaDoorRun
namespace Go.Proofs.YtgegkjjknlfkpaaDoor
open Go.RowKit
set_option maxRecDepth 100000
theorem text_no (m : Int) (w : World) (h : m < 0 ∨ 2047 < m) : Calls Tryd.prog 20 #[.int .i64 m] w fun e w' => e = .returned (.tuple #[.string ⟨#[]⟩, .int .i64 2]) ∧ w = w' := by
  go_enter Tryd.func20, Tryd.ntmps20
  go_wp2_with fail
  refine (valid_no m _ h).mono ?_
  rintro e w1 ⟨rfl, rfl⟩
  clear h
  go_wp2
  go_returns
  exact ⟨rfl, rfl⟩
set_option maxHeartbeats 2000000 in
theorem accessTexts_walk (mode : Int) (w : World) (hg : Glob w) (h1 : -9223372036854775808 ≤ mode) (h2 : mode ≤ 9223372036854775807) :
    Calls Tryd.prog 8 #[.int .i64 mode] w fun e w' => e = .returned (.bool true) ∧ Below w.heap.size w w' := by
  have HG := Lib.hid hg; clear hg
  by_cases hm : mode < 0 ∨ 2047 < mode
  · by_cases h0 : mode < 0
    · have e0 : decide (mode < 0) = true := by simp [h0]
      clear h0
      go_enter Tryd.func8, Tryd.ntmps8
      go_wp2_with fail
      refine (text_no mode _ hm).mono ?_
      rintro e w1 ⟨rfl, rfl⟩
      clear hm
      go_wp2_with fail
      refine (known_any _ HG.out).mono ?_
      rintro e w1 ⟨rfl, hb⟩
      have HB := Lib.hid hb; clear hb
      go_wp2
      go_returns
      exact ⟨rfl, HB.out⟩
    · have e0 : decide (mode < 0) = false := by simp; omega
      have e1 : decide (2047 < mode) = true := by simp; omega
      clear h0
      go_enter Tryd.func8, Tryd.ntmps8
      go_wp2_with fail
      refine (text_no mode _ hm).mono ?_
      rintro e w1 ⟨rfl, rfl⟩
      clear hm
      go_wp2_with fail
      refine (known_any _ HG.out).mono ?_
      rintro e w1 ⟨rfl, hb⟩
      have HB := Lib.hid hb; clear hb
      go_wp2
      go_returns
      exact ⟨rfl, HB.out⟩
  · obtain ⟨m, rfl⟩ := Int.eq_ofNat_of_zero_le (show 0 ≤ mode by omega)
    have hm' : m ≤ 2047 := by omega
    have e0 : decide ((m : Int) < 0) = false := by simp
    have e1 : decide (2047 < (m : Int)) = false := by simp; omega
    clear hm
    go_enter Tryd.func8, Tryd.ntmps8
    go_wp2_with fail
    refine (text_any m _ hm').mono ?_
    rintro e w1 ⟨rfl, hb1⟩
    have HB1 := Lib.hid hb1; clear hb1
    go_wp2_with fail
    refine (parse_text m _ hm').mono ?_
    rintro e w2 ⟨rfl, hb2⟩
    have HB2 := Lib.hid (bl_tr HB1.out hb2); clear hb2
    go_wp2_with fail
    refine (known_any _ (HG.out.after HG.out.lt HB2.out)).mono ?_
    rintro e w3 ⟨rfl, hb3⟩
    have HB3 := Lib.hid (bl_tr HB2.out hb3); clear hb3
    go_wp2_with fail
    refine (rtext_any m _ hm').mono ?_
    rintro e w4 ⟨rfl, hb4⟩
    have HB4 := Lib.hid (bl_tr HB3.out hb4); clear hb4
    go_wp2
    go_returns
    exact ⟨rfl, HB4.out⟩
end Go.Proofs.YtgegkjjknlfkpaaDoor
