/- The reference's Signed, Text and Write, each by a contract. -/
import Derived.Test.YtogagcdlkhinjaaVals
import Derived.Test.YtogagcdlkhinjaaNaturalR
namespace Go.Proofs.Ytogagcdlkhinjaa
open Go.RowKit
set_option maxRecDepth 100000
set_option maxHeartbeats 400000 in
theorem signedR_pos (n : Nat) (w : World) (hn : n < 9223372036854775808) : Calls Try.prog 37 #[.int .i64 (n : Nat)] w fun e w' => e = .returned (.int .u64 ((2 * n : Nat) : Int)) ∧ w = w' := by
  go_enter Try.func37, Try.ntmps37
  go_wp2
  go_ret
  exact ⟨ret1 (by simp), rfl⟩
set_option maxHeartbeats 400000 in
theorem signedR_neg (n : Nat) (w : World) (hn : n < 9223372036854775808) : Calls Try.prog 37 #[.int .i64 (-(n : Int) - 1)] w fun e w' => e = .returned (.int .u64 ((2 * n + 1 : Nat) : Int)) ∧ w = w' := by
  go_enter Try.func37, Try.ntmps37
  go_wp2
  go_ret
  refine ⟨ret1 ?_, rfl⟩
  omega
set_option maxHeartbeats 400000 in
theorem textR_any (l : List UInt8) (w : World) (hl : l.length ≤ 1000000) :
    Calls Try.prog 38 #[.string (str l)] w fun e w' => ∃ A m c, e = .returned (.slice A m c) ∧ Own w' w.heap.size 5 L8 (.slice A m c) (nat l.length ++ l) ∧ Below w.heap.size w w' := by
  have hsz : (str l).size = l.length := rfl
  have hnl := (nat_len l.length).2
  go_enter Try.func38, Try.ntmps38
  go_wp2_with fail
  refine (naturalR_any l.length (by omega) w).mono ?_
  rintro e w1 ⟨A, m, c, rfl, hown, hb⟩
  go_wp2
  have HO := Lib.hid hown; clear hown
  have hs1 := hb.size
  go_loopw [3, 4] (fun v i wr => ∃ k : Nat, k ≤ l.length ∧ i = .int .i64 (k : Nat) ∧ Own wr w.heap.size 5 L8 v (nat l.length ++ l.take k) ∧ Below w.heap.size w wr) (fun _ i _ => l.length - (intOf i).toNat)
  case atStart => exact ⟨0, by omega, rfl, by simpa using HO.out, hb⟩
  case round =>
    obtain ⟨k, hk, rfl, hown, hbr⟩ := hrel
    have hsr := hbr.size
    by_cases hlt : k < l.length
    · have hnew : nat l.length ++ l.take (k + 1) = (nat l.length ++ l.take k) ++ [l.getD k 0] := by rw [take_succ_getD l k hlt, List.append_assoc]
      have hcl : (nat l.length ++ l.take k).length ≤ 1000010 := by simp; omega
      generalize nat l.length ++ l.take k = cur at hown hnew hcl
      have hlt' : k < (str l).size := hlt
      have hgt := str_get l k hlt'
      generalize l.getD k 0 = ch at hgt hnew
      have HN := Lib.hid hnew; clear hnew
      have HG := Lib.hid hgt; clear hgt
      go_wp2_with (at_builtin; refine ap_one _ rfl _ _ El8 rfl w.heap.size _ cur rfl (hown.alloc _) _ _ ch rfl ?c1 ?c2 ?c3 ?c4 ?_)
      case c1 => exact new_at (by rw [HG.out]; rfl)
      case c2 => omega
      case c3 => omega
      case c4 => simp; omega
      intro A' c' w' hown' hg _ _ _
      have hb' := (hown.alloc _).belowGrown (hbr.alloc hsr _) (by simp; omega) (Nat.le_refl _) hg
      rw [← HN.out] at hown'
      have HO' := Lib.hid hown'
      clear hg hown hbr hown'
      go_wp2
      go_roundw
      case rel => exact ⟨k + 1, by omega, by go_num, HO'.out, hb'⟩
      case measure => simp [intOf]; omega
    · obtain rfl : k = l.length := by omega
      obtain ⟨A', n', c', rfl⟩ := hown.sl
      rw [List.take_length] at hown
      have HO' := Lib.hid hown; clear hown
      go_wp2
      go_ret
      exact ⟨_, _, _, rfl, HO'.out, hbr⟩
/-- Behind an error a Writer's steps turn nothing. -/
theorem fold_failed (l : List V) (o : List UInt8) (f : Nat) (hf : f ≠ 0) : l.foldl wstep (o, f) = (o, f) := by
  induction l with
  | nil => rfl
  | cons a r ih =>
    have e : wstep (o, f) a = (o, f) := by
      unfold wstep put erred
      split <;> simp [hf]
    rw [List.foldl_cons, e, ih]
theorem gives_failed (o : List UInt8) (f : Nat) (hf : f ≠ 0) : gives o f = [] := by unfold gives; rw [if_neg hf]
set_option maxHeartbeats 2000000 in
theorem writeR_any (A : Option Addr) (n c : Nat) (l : List V) (w : World) (hr : Rd w w.heap.size LV A n l) (hn : n ≤ 40) (hs : ∀ x ∈ l, x.Ok ∧ x.s.length ≤ 200) :
    Calls Try.prog 20 #[.slice A n c] w fun e w' => ∃ A' m c', e = .returned (.tuple #[.slice A' m c', .int .i64 ((l.foldl wstep ([], 0)).2 : Nat)]) ∧ Own w' w.heap.size 5 L8 (.slice A' m c') (gives (l.foldl wstep ([], 0)).1 (l.foldl wstep ([], 0)).2) ∧ Below w.heap.size w w' := by
  generalize hfin : l.foldl wstep ([], 0) = fin
  have HF := Lib.hid hfin; clear hfin
  have HR := Lib.hid hr; have HS := Lib.hid hs
  clear hr hs
  go_enter Try.func20, Try.ntmps20
  go_wp2
  go_loopw [4, 5] (fun v i wr => ∃ (k : Nat) (o : List UInt8), k ≤ n ∧ i = .int .i64 (k : Nat) ∧ Hid ((l.take k).foldl wstep ([], 0) = (o, 0)) ∧ Own wr w.heap.size 5 L8 v o ∧ Below w.heap.size w wr) (fun _ i _ => n - (intOf i).toNat)
  case atStart => exact ⟨0, [], by omega, rfl, rfl, Own.nil_, Below.refl _ _⟩
  case round =>
    obtain ⟨k, o, hk, rfl, Ho, hown, hb⟩ := hrel
    have hsz := hb.size
    by_cases hlt : k < n
    · obtain ⟨b, q, x, rfl, hab, hx, c0, c1, c2, c3, c4⟩ := (HR.out.below hb).v hlt
      obtain ⟨hok, h200⟩ := HS.out x (List.mem_of_getElem? hx)
      have hnew : (l.take (k + 1)).foldl wstep ([], 0) = wstep (o, 0) x := by rw [List.take_add_one, hx]; simp [Ho.out]
      have hcl : o.length ≤ 210 * k := by
        have := foldl_wstep_len (l.take k) ([], 0) (fun y hy => (HS.out y (List.mem_of_mem_take hy)).2)
        have h2 : (l.take k).length ≤ k := List.length_take_le _ _
        rw [Ho.out] at this
        simp at this; omega
      have herr : (wstep (o, 0) x).2 ≠ 0 → fin = wstep (o, 0) x := fun h => by
        have h1 : l = l.take (k + 1) ++ l.drop (k + 1) := (List.take_append_drop _ _).symm
        rw [← HF.out, h1, List.foldl_append, hnew]
        generalize wstep (o, 0) x = p at h
        obtain ⟨p1, p2⟩ := p
        exact fold_failed _ _ _ h
      have HN := Lib.hid hnew; have HK := Lib.hid hok; have HE := Lib.hid herr
      clear hnew hok hx herr
      have hlt4 : x.kind.toNat % 4 < 4 := Nat.mod_lt _ (by decide)
      rcases (show x.kind.toNat % 4 = 0 ∨ x.kind.toNat % 4 = 1 ∨ x.kind.toNat % 4 = 2 ∨ x.kind.toNat % 4 = 3 by omega) with h | h | h | h
      · have e0 : ((x.kind.toNat : Int) % 4 == 0) = true := by simp; omega
        have H4 := Lib.hid h; clear h
        by_cases hneg : x.n < 0
        · have hw : wstep (o, 0) x = (o, 2) := by unfold wstep; rw [H4.out]; simp only []; rw [if_pos hneg]; rfl
          have HW := Lib.hid hw; clear hw
          have hE : fin = (o, 2) := (HE.out (by rw [HW.out]; exact (by decide : (2 : Nat) ≠ 0))).trans HW.out
          have HEE := Lib.hid hE; clear hE
          go_wp2
          go_returns
          refine ⟨none, 0, 0, ?_, ?_, hb.alloc hsz _⟩
          · rw [HEE.out]; rfl
          · rw [HEE.out]; exact Own.nil_
        · obtain ⟨m, hm⟩ := Int.eq_ofNat_of_zero_le (Int.not_lt.1 hneg)
          have hml : m < 9223372036854775808 := by have := HK.out.n2; omega
          rw [hm] at c1
          have HM := Lib.hid hm; clear hm hneg
          go_wp2_with fail
          refine (naturalR_any m (by omega) _).mono ?_
          rintro e w2 ⟨A2, m2, c2, rfl, hown2, hb2⟩
          have hl2 : m2 ≤ 10 := by have := hown2.cap; have := nat_len m; omega
          have hb3 : Below w.heap.size w w2 := (hb.alloc hsz _).trans (hb2.mono (by simp; omega))
          have hs3 := hb3.size
          have ho3 : Own w2 w.heap.size 5 L8 u4 o := (hown.alloc _).after hb2
          go_wp2_with (at_builtin; refine ap_any _ rfl _ _ El8 rfl w.heap.size _ o rfl ho3 w2.heap.size A2 m2 c2 _ rfl hown2.rd ?c1 ?c2 ?c3 ?_)
          case c1 => omega
          case c2 => omega
          case c3 => omega
          intro A' c' w' hown' hg _ _ _
          have hb' := ho3.belowGrown hb3 hs3 (Nat.le_refl _) hg
          have hw : wstep (o, 0) x = (o ++ nat m, 0) := by unfold wstep; rw [H4.out]; simp only []; rw [HM.out, if_neg (by omega)]; rfl
          have hq : Hid ((l.take (k + 1)).foldl wstep ([], 0) = (o ++ nat m, 0)) := HN.out.trans hw
          have HQ := Lib.hid (And.intro hq (And.intro hown' hb'))
          clear hw hq hown' hb' hg ho3 hown2 hb2 hown hb
          go_wp2
          go_roundw
          case rel => exact ⟨k + 1, _, by omega, by go_num, HQ.out⟩
          case measure => simp [intOf]; omega
      · have e0 : ((x.kind.toNat : Int) % 4 == 0) = false := by simp; omega
        have e1 : ((x.kind.toNat : Int) % 4 == 1) = true := by simp; omega
        have H4 := Lib.hid h; clear h
        by_cases hneg : x.n < 0
        · obtain ⟨m, hm⟩ : ∃ m : Nat, x.n = -(m : Int) - 1 := ⟨(-x.n - 1).toNat, by omega⟩
          have hml : m < 9223372036854775808 := by have := HK.out.n1; omega
          rw [hm] at c1
          have HM := Lib.hid hm; clear hm hneg
          go_wp2_with fail
          refine (signedR_neg m _ hml).mono ?_
          rintro e w1 ⟨rfl, rfl⟩
          go_wp2_with fail
          refine (naturalR_any (2 * m + 1) (by omega) _).mono ?_
          rintro e w2 ⟨A2, m2, c2, rfl, hown2, hb2⟩
          have hl2 : m2 ≤ 10 := by have := hown2.cap; have := nat_len (2 * m + 1); omega
          have hb3 : Below w.heap.size w w2 := (hb.alloc hsz _).trans (hb2.mono (by simp; omega))
          have hs3 := hb3.size
          have ho3 : Own w2 w.heap.size 5 L8 u4 o := (hown.alloc _).after hb2
          go_wp2_with (at_builtin; refine ap_any _ rfl _ _ El8 rfl w.heap.size _ o rfl ho3 w2.heap.size A2 m2 c2 _ rfl hown2.rd ?c1 ?c2 ?c3 ?_)
          case c1 => omega
          case c2 => omega
          case c3 => omega
          intro A' c' w' hown' hg _ _ _
          have hb' := ho3.belowGrown hb3 hs3 (Nat.le_refl _) hg
          have hw : wstep (o, 0) x = (o ++ nat (2 * m + 1), 0) := by unfold wstep; rw [H4.out]; simp only []; rw [HM.out, sgn_neg]; rfl
          have hq : Hid ((l.take (k + 1)).foldl wstep ([], 0) = (o ++ nat (2 * m + 1), 0)) := HN.out.trans hw
          have HQ := Lib.hid (And.intro hq (And.intro hown' hb'))
          clear hw hq hown' hb' hg ho3 hown2 hb2 hown hb
          go_wp2
          go_roundw
          case rel => exact ⟨k + 1, _, by omega, by go_num, HQ.out⟩
          case measure => simp [intOf]; omega
        · obtain ⟨m, hm⟩ := Int.eq_ofNat_of_zero_le (Int.not_lt.1 hneg)
          have hml : m < 9223372036854775808 := by have := HK.out.n2; omega
          rw [hm] at c1
          have HM := Lib.hid hm; clear hm hneg
          go_wp2_with fail
          refine (signedR_pos m _ hml).mono ?_
          rintro e w1 ⟨rfl, rfl⟩
          go_wp2_with fail
          refine (naturalR_any (2 * m) (by omega) _).mono ?_
          rintro e w2 ⟨A2, m2, c2, rfl, hown2, hb2⟩
          have hl2 : m2 ≤ 10 := by have := hown2.cap; have := nat_len (2 * m); omega
          have hb3 : Below w.heap.size w w2 := (hb.alloc hsz _).trans (hb2.mono (by simp; omega))
          have hs3 := hb3.size
          have ho3 : Own w2 w.heap.size 5 L8 u4 o := (hown.alloc _).after hb2
          go_wp2_with (at_builtin; refine ap_any _ rfl _ _ El8 rfl w.heap.size _ o rfl ho3 w2.heap.size A2 m2 c2 _ rfl hown2.rd ?c1 ?c2 ?c3 ?_)
          case c1 => omega
          case c2 => omega
          case c3 => omega
          intro A' c' w' hown' hg _ _ _
          have hb' := ho3.belowGrown hb3 hs3 (Nat.le_refl _) hg
          have hw : wstep (o, 0) x = (o ++ nat (2 * m), 0) := by unfold wstep; rw [H4.out]; simp only []; rw [HM.out, sgn_pos]; rfl
          have hq : Hid ((l.take (k + 1)).foldl wstep ([], 0) = (o ++ nat (2 * m), 0)) := HN.out.trans hw
          have HQ := Lib.hid (And.intro hq (And.intro hown' hb'))
          clear hw hq hown' hb' hg ho3 hown2 hb2 hown hb
          go_wp2
          go_roundw
          case rel => exact ⟨k + 1, _, by omega, by go_num, HQ.out⟩
          case measure => simp [intOf]; omega
      · have e0 : ((x.kind.toNat : Int) % 4 == 0) = false := by simp; omega
        have e1 : ((x.kind.toNat : Int) % 4 == 1) = false := by simp; omega
        have e2 : ((x.kind.toNat : Int) % 4 == 2) = true := by simp; omega
        have H4 := Lib.hid h; clear h
        rcases hbv : x.is with _ | _
        · skip
          have hy : ∀ W : World, ∀ j u, (L8.enc (0 : UInt8))[j]? = some u → (W.alloc (.cells #[.int .u8 0] 5)).cell? ((⟨W.heap.size, 0, none⟩ : Addr).add j) = some u := fun W => new_at rfl
          have HY := Lib.hid hy; clear hy
          have e3 : x.is = false := hbv
          rw [e3] at c2
          have HB := Lib.hid e3; clear e3 hbv
          go_wp2_with (at_builtin; refine ap_one _ rfl _ _ El8 rfl w.heap.size _ o rfl ((hown.alloc _).alloc _) _ _ (0 : UInt8) rfl ?c1 ?c2 ?c3 ?c4 ?_)
          case c1 => simpa using HY.out (wr.alloc _)
          case c2 => omega
          case c3 => omega
          case c4 => simp; omega
          intro A' c' w' hown' hg _ _ _
          have hb' := (hown.alloc _).alloc _ |>.belowGrown ((hb.alloc hsz _).alloc (by simp; omega) _) (by simp; omega) (Nat.le_refl _) hg
          have hw : wstep (o, 0) x = (o ++ [0], 0) := by unfold wstep; rw [H4.out]; simp only []; rw [HB.out]; rfl
          have hq : Hid ((l.take (k + 1)).foldl wstep ([], 0) = (o ++ [0], 0)) := HN.out.trans hw
          have HQ := Lib.hid (And.intro hq (And.intro hown' hb'))
          clear hw hq hown' hb' hg hown hb
          go_wp2
          go_roundw
          case rel => exact ⟨k + 1, _, by omega, by go_num, HQ.out⟩
          case measure => simp [intOf]; omega
        · skip
          have hy : ∀ W : World, ∀ j u, (L8.enc (1 : UInt8))[j]? = some u → (W.alloc (.cells #[.int .u8 1] 5)).cell? ((⟨W.heap.size, 0, none⟩ : Addr).add j) = some u := fun W => new_at rfl
          have HY := Lib.hid hy; clear hy
          have e3 : x.is = true := hbv
          rw [e3] at c2
          have HB := Lib.hid e3; clear e3 hbv
          go_wp2_with (at_builtin; refine ap_one _ rfl _ _ El8 rfl w.heap.size _ o rfl ((hown.alloc _).alloc _) _ _ (1 : UInt8) rfl ?c1 ?c2 ?c3 ?c4 ?_)
          case c1 => simpa using HY.out (wr.alloc _)
          case c2 => omega
          case c3 => omega
          case c4 => simp; omega
          intro A' c' w' hown' hg _ _ _
          have hb' := (hown.alloc _).alloc _ |>.belowGrown ((hb.alloc hsz _).alloc (by simp; omega) _) (by simp; omega) (Nat.le_refl _) hg
          have hw : wstep (o, 0) x = (o ++ [1], 0) := by unfold wstep; rw [H4.out]; simp only []; rw [HB.out]; rfl
          have hq : Hid ((l.take (k + 1)).foldl wstep ([], 0) = (o ++ [1], 0)) := HN.out.trans hw
          have HQ := Lib.hid (And.intro hq (And.intro hown' hb'))
          clear hw hq hown' hb' hg hown hb
          go_wp2
          go_roundw
          case rel => exact ⟨k + 1, _, by omega, by go_num, HQ.out⟩
          case measure => simp [intOf]; omega
      · have e0 : ((x.kind.toNat : Int) % 4 == 0) = false := by simp; omega
        have e1 : ((x.kind.toNat : Int) % 4 == 1) = false := by simp; omega
        have e2 : ((x.kind.toNat : Int) % 4 == 2) = false := by simp; omega
        have hss : (str x.s).size = x.s.length := rfl
        have H4 := Lib.hid h; clear h
        go_wp2_with fail
        refine (textR_any x.s _ (by omega)).mono ?_
        rintro e w2 ⟨A2, m2, c2, rfl, hown2, hb2⟩
        have hl2 : m2 ≤ 210 := by have := hown2.cap; have := nat_len x.s.length; have := @List.length_append _ (nat x.s.length) x.s; omega
        have hb3 : Below w.heap.size w w2 := (hb.alloc hsz _).trans (hb2.mono (by simp; omega))
        have hs3 := hb3.size
        have ho3 : Own w2 w.heap.size 5 L8 u4 o := (hown.alloc _).after hb2
        go_wp2_with (at_builtin; refine ap_any _ rfl _ _ El8 rfl w.heap.size _ o rfl ho3 w2.heap.size A2 m2 c2 _ rfl hown2.rd ?c1 ?c2 ?c3 ?_)
        case c1 => omega
        case c2 => omega
        case c3 => omega
        intro A' c' w' hown' hg _ _ _
        have hb' := ho3.belowGrown hb3 hs3 (Nat.le_refl _) hg
        have hw : wstep (o, 0) x = (o ++ (nat x.s.length ++ x.s), 0) := by unfold wstep; rw [H4.out]; simp only []; rfl
        have hq : Hid ((l.take (k + 1)).foldl wstep ([], 0) = (o ++ (nat x.s.length ++ x.s), 0)) := HN.out.trans hw
        have HQ := Lib.hid (And.intro hq (And.intro hown' hb'))
        clear hw hq hown' hb' hg ho3 hown2 hb2 hown hb
        go_wp2
        go_roundw
        case rel => exact ⟨k + 1, _, by omega, by go_num, HQ.out⟩
        case measure => simp [intOf]; omega
    · obtain rfl : k = n := by omega
      have he : l.take k = l := by have := HR.out.len; rw [← this]; exact List.take_length
      have hE : fin = (o, 0) := by rw [← HF.out, ← Ho.out, he]
      obtain ⟨A', n', c', rfl⟩ := hown.sl
      have HEE := Lib.hid hE; have HO := Lib.hid hown
      clear he hE hown
      go_wp2
      go_returns
      refine ⟨A', n', c', ?_, ?_, hb⟩
      · rw [HEE.out]; rfl
      · rw [HEE.out]; exact HO.out
end Go.Proofs.Ytogagcdlkhinjaa
