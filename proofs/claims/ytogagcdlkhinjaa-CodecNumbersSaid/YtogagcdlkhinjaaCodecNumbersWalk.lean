/- The walk of the law CodecNumbers: for every number and any bytes before and behind it, it returns true. -/
import Derived.Test.YtogagcdlkhinjaaKnown
import Derived.Test.YtogagcdlkhinjaaNaturalR
namespace Go.Proofs.Ytogagcdlkhinjaa
open Go.RowKit
set_option maxRecDepth 100000
set_option maxHeartbeats 1000000 in
theorem codecNumbers_neg (x : Int) (A1 A2 : Option Addr) (n1 c1 n2 c2 : Nat) (w : World) (hc1 : n1 ≤ c1) (hc2 : n2 ≤ c2)
    (hx : x < 0) :
    Calls Try.prog 4 #[.int .i64 x, .slice A1 n1 c1, .slice A2 n2 c2] w fun e w' => e = .returned (.bool true) ∧ Below w.heap.size w w' := by
  go_enter Try.func4, Try.ntmps4
  go_wp2
  refine wp_region_quiet_below (by kernel_rfl) (by kernel_rfl) ?_
  repeat (go_big_quiet_step (fail))
  refine wpQuiet_nil ?_
  rintro _ ⟨⟨dq, osq⟩, rfl⟩
  have hb1 := below_regrown w dq osq
  generalize Go.Sort.grow (redrawn w dq) osq = w1 at hb1 ⊢
  go_wp2_with fail
  refine (append_neg _ _ _ x w1 hx).mono ?_
  rintro e w2 ⟨rfl, rfl⟩
  go_wp2_with fail
  refine (known_any w1).mono ?_
  rintro e w2 ⟨rfl, hb2⟩
  go_wp2_with fail
  refine (size_neg x w2 hx).mono ?_
  rintro e w3 ⟨rfl, rfl⟩
  go_wp2
  go_returns
  exact ⟨rfl, hb1.trans (hb2.mono hb1.size)⟩
set_option maxHeartbeats 1000000 in
theorem codecNumbers_walk (x : Nat) (A1 A2 : Option Addr) (n1 c1 n2 c2 : Nat) (l1 l2 : List UInt8) (w : World) (hr1 : Rd w w.heap.size L8 A1 n1 l1) (hc1 : n1 ≤ c1) (hm1 : c1 ≤ maxLen) (hr2 : Rd w w.heap.size L8 A2 n2 l2) (hc2 : n2 ≤ c2) (hm2 : c2 ≤ maxLen)
    (hx : x < 9223372036854775808) :
    Calls Try.prog 4 #[.int .i64 (x : Nat), .slice A1 n1 c1, .slice A2 n2 c2] w fun e w' => e = .returned (.bool true) ∧ Below w.heap.size w w' := by
  unfold maxLen at hm1 hm2
  have hr1' := hr1.upto (k := min n1 100) (Nat.min_le_left _ _)
  generalize hn1 : min n1 100 = k1 at hr1'
  generalize l1.take k1 = b1 at hr1'
  have hk1 : k1 ≤ 100 ∧ k1 ≤ n1 := by omega
  have hmin1 : min (n1 : Int) 100 = ((k1 : Nat) : Int) := by omega
  have hr2' := hr2.upto (k := min n2 100) (Nat.min_le_left _ _)
  generalize hn2 : min n2 100 = k2 at hr2'
  generalize l2.take k2 = b2 at hr2'
  have hk2 : k2 ≤ 100 ∧ k2 ≤ n2 := by omega
  have hmin2 : min (n2 : Int) 100 = ((k2 : Nat) : Int) := by omega
  clear hn1 hn2 hr1 hr2
  have HR1 := Lib.hid hr1'; have HR2 := Lib.hid hr2'
  clear hr1' hr2'
  go_enter Try.func4, Try.ntmps4
  go_wp2
  refine wp_region_quiet_below (by kernel_rfl) (by kernel_rfl) ?_
  repeat (go_big_quiet_step (fail))
  refine wpQuiet_nil ?_
  rintro _ ⟨⟨dq, osq⟩, rfl⟩
  have hb1 := below_regrown w dq osq
  generalize Go.Sort.grow (redrawn w dq) osq = w1 at hb1 ⊢
  go_wp2_with fail
  refine (append_any A1 k1 c1 b1 x w1 (HR1.out.after hb1) (by omega) hx).mono ?_
  rintro e w2 ⟨A3, m3, c3, rfl, hown3, hb2⟩
  go_wp2_with fail
  refine (naturalR_any x (by omega) w2).mono ?_
  rintro e w3 ⟨A4, m4, c4, rfl, hown4, hb3⟩
  have hl4 : m4 ≤ 10 := by have := hown4.cap; have := nat_len x; omega
  have HO4 := Lib.hid hown4; clear hown4
  have hl2 := HR2.out.len
  have hb31 : Below w1.heap.size w1 w3 := hb2.trans (hb3.mono hb2.size)
  have h2w3 := (HR2.out.after hb1).after hb31
  have H2W := Lib.hid h2w3; clear h2w3
  have HL2 := Lib.hid hl2; clear hl2
  have hlx : (nat x).length ≤ 10 := (nat_len x).2
  go_wp2_with (at_builtin; refine ap_any _ rfl (.tmp 50) _ El8 rfl w3.heap.size (.slice (some ⟨w3.heap.size, 0, none⟩) 0 0) [] rfl ?c1 w3.heap.size A4 m4 c4 (nat x) rfl ?c2 ?c3 ?c4 ?c5 ?_)
  case c1 => exact new_own (l := []) (Nat.le_refl _) (Nat.zero_le _) rfl
  case c2 => exact HO4.out.rd.alloc (Nat.le_refl _) _
  case c3 => simp; omega
  case c4 => simp; omega
  case c5 => simp
  intro A5 c5 w5 hown5 hg5 _ _ _
  have hb5 : Below w3.heap.size w3 w5 := ((Below.refl _ _).alloc (Nat.le_refl _) _).grown hg5 (by simp) (fun k hk => by simp [Value.ownBlock] at hk; omega)
  have hs5 := hb5.size
  clear hg5
  go_wp2_with (at_builtin; refine ap_any _ rfl (.tmp 52) _ El8 rfl w3.heap.size _ (nat x) rfl hown5 w5.heap.size A2 k2 c2 b2 rfl (H2W.out.after hb5) ?c1 ?c2 ?c3 ?_)
  case c1 => omega
  case c2 => omega
  case c3 => omega
  intro A6 c6 w6 hown6 hg6 _ _ _
  have hb6 := hown5.belowGrown hb5 hs5 (Nat.le_refl _) hg6
  clear hg6 hown5
  have hb61 : Below w1.heap.size w1 w6 := hb31.trans (hb6.mono hb31.size)
  have hr6 := hown6.rd
  have HR6 := Lib.hid hr6; clear hr6 hown6
  go_wp2_with fail
  refine (parse_any A6 _ c6 (nat x ++ b2) w6 HR6.out (by omega)).mono ?_
  rintro e w7 ⟨rfl, rfl⟩
  rw [grp_nat x b2 hx]
  clear hb5
  have hq4 : m4 = (nat x).length := by have := HO4.out.cap; omega
  have HQ4 := Lib.hid hq4; clear hq4
  have hw3 : Below w3.heap.size w3 w6 := hb6
  have hA3 : Rd w6 w6.heap.size L8 A3 m3 (b1 ++ nat x) := (hown3.rd.after hb3).after hw3
  have hA4 : Rd w6 w6.heap.size L8 A4 m4 (nat x) := HO4.out.rd.after hw3
  have hA1 : Rd w6 w6.heap.size L8 A1 k1 b1 := (HR1.out.after hb1).after hb61
  rw [← HQ4.out]
  have hap := str_append b1 (nat x)
  have hsz1 : (str b1).size = b1.length := rfl
  have hsz2 : (str (nat x)).size = (nat x).length := rfl
  have hlb1 : b1.length ≤ 100 := by have := HR1.out.len; omega
  clear hown3 hb6 hw3 hb3 hb2
  go_wp2_with fail
  refine (known_any w6).mono ?_
  rintro e w7 ⟨rfl, hb7⟩
  have hcv1 : (convert 22 9 (.slice A3 m3 c3)).run Try.prog w7 = .ok (.string (str (b1 ++ nat x))) w7 := run_conv8 Try.underlying22 Try.underlying5 Try.underlying9 (hA3.after hb7)
  have hcv2 : (convert 22 9 (.slice A1 k1 c1)).run Try.prog w7 = .ok (.string (str b1)) w7 := run_conv8 Try.underlying22 Try.underlying5 Try.underlying9 (hA1.after hb7)
  have hcv3 : (convert 22 9 (.slice A4 m4 c4)).run Try.prog w7 = .ok (.string (str (nat x))) w7 := run_conv8 Try.underlying22 Try.underlying5 Try.underlying9 (hA4.after hb7)
  clear hA1 hA3 hA4
  go_wp2_with fail
  refine (size_any x w7 hx).mono ?_
  rintro e w8 ⟨rfl, hb8⟩
  rw [← HQ4.out]
  clear hcv1 hcv2 hcv3
  go_wp2
  go_returns
  exact ⟨rfl, hb1.trans ((hb61.trans ((hb7.trans (hb8.mono hb7.size)).mono hb61.size)).mono hb1.size)⟩
end Go.Proofs.Ytogagcdlkhinjaa
