/- The law CodecParses: Parse agrees with the reference on any bytes, and the bytes of a number are its encoding. -/
import Derived.Test.YtogagcdlkhinjaaKnown

namespace Go.Proofs.Ytogagcdlkhinjaa
open Go.RowKit
set_option maxRecDepth 100000
set_option maxHeartbeats 1000000 in
theorem codecParses_walk (A : Option Addr) (n c : Nat) (l : List UInt8) (w : World) (hr : Rd w w.heap.size L8 A n l) (hnc : n ≤ c) (hcm : c ≤ maxLen) :
    Calls Try.prog 3 #[.slice A n c] w fun e w' => e = .returned (.bool true) ∧ Below w.heap.size w w' := by
  unfold maxLen at hcm
  have hr2 := hr.upto (k := min n 100) (Nat.min_le_left _ _)
  generalize hn' : min n 100 = n' at hr2
  have hn1 : n' ≤ 100 := by omega
  have hn2 : n' ≤ n := by omega
  generalize l.take n' = l' at hr2
  have henc := grp_enc l'
  have hzer := grp_zero l' 9
  generalize hg : grp l' 9 = g at henc hzer
  obtain ⟨g1, g2, g3⟩ := g
  have Hg := Lib.hid hg; clear hg
  have HE := Lib.hid henc; have HZ := Lib.hid hzer
  clear henc hzer hr
  have hmin : min (n : Int) 100 = ((n' : Nat) : Int) := by omega
  clear hn'
  go_enter Try.func3, Try.ntmps3
  go_wp2_with fail
  refine (parse_any A n' c l' w hr2 (by omega)).mono ?_
  rintro e w1 ⟨rfl, rfl⟩
  rw [Hg.out]
  go_wp2_with fail
  refine (parseR_any A n' c l' w hr2 (by omega)).mono ?_
  rintro e w1 ⟨rfl, rfl⟩
  rw [Hg.out]
  by_cases h3 : g3 = 0
  · subst h3
    have ⟨he1, he2⟩ := HE.out rfl
    have HE1 := Lib.hid he1; clear he1
    go_wp2_with fail
    refine (append_any none 0 0 [] g1 w Rd.none_ (by omega) (by have := grp_small l'; rw [Hg.out] at this; exact this)).mono ?_
    rintro e w2 ⟨A2, m2, c2, rfl, hown, hb2⟩
    have hr3 : Rd w2 w2.heap.size L8 A2 m2 (l'.take g2) := by have := hown.rd; rw [← HE1.out]; exact this
    have hr4 : Rd w2 w2.heap.size L8 A g2 (l'.take g2) := (hr2.after hb2).upto (by have := hr2.len; omega)
    clear hown HE1 HE HZ
    have hg2 : g2 ≤ n' := by have := hr2.len; omega
    have HR2 := Lib.hid hr2; have HR3 := Lib.hid hr3; have HR4 := Lib.hid hr4
    clear hr2 hr3 hr4
    go_wp2
    have hcv1 := regrow (w := w2) (p := fun W => (convert 22 9 (.slice A2 m2 c2)).run Try.prog W = .ok (.string (str (l'.take g2))) W) fun W hW => run_conv8 Try.underlying22 Try.underlying5 Try.underlying9 (HR3.out.after hW)
    have hcv2 := regrow (w := w2) (p := fun W => (convert 22 9 (.slice A g2 c)).run Try.prog W = .ok (.string (str (l'.take g2))) W) fun W hW => run_conv8 Try.underlying22 Try.underlying5 Try.underlying9 (HR4.out.after hW)
    have hk := regrow_call (w := w2) (P := Try.prog) (f := 12) (args := #[]) (v := .bool true) fun W _ => known_any W
    refine wp_region_quiet_below (by kernel_rfl) (by kernel_rfl) ?_
    repeat (go_big_quiet_step (exact hk _ _))
    trace_state
    refine wpQuiet_nil ?_
    intro _ hw'
    obtain ⟨⟨dq, osq⟩, hw''⟩ := hw'
    subst hw''
    go_wp2
    go_returns
    exact ⟨rfl, hb2.trans ((below_regrown w2 dq osq).mono hb2.size)⟩
  · obtain ⟨rfl, rfl⟩ := HZ.out h3
    have e3 : ((g3 : Int) == 0) = false := by simp; omega
    have e4 : ((g3 : Int) != 0) = true := by simp; omega
    go_wp2_with fail
    refine (known_any w).mono ?_
    rintro e w1 ⟨rfl, hb⟩
    go_wp2
    go_returns
    exact ⟨rfl, hb⟩
end Go.Proofs.Ytogagcdlkhinjaa
