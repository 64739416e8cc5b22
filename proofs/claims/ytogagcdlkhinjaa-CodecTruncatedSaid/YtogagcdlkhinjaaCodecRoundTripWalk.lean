/- The walk of the law CodecRoundTrip. -/
import Derived.Test.YtogagcdlkhinjaaMost
import Derived.Test.YtogagcdlkhinjaaCodecWritesWalk
namespace Go.Proofs.Ytogagcdlkhinjaa
open Go.RowKit
set_option maxRecDepth 100000
theorem encV_len (v : V) (h : v.s.length ≤ 200) : (encV v).length ≤ 210 := by
  have h1 := (nat_len v.n.toNat).2; have h2 := (nat_len (sgn v.n)).2; have h3 := (nat_len v.s.length).2
  unfold encV
  split
  · omega
  · omega
  · simp
  · simp; omega
theorem Wr.bytes_le {l : List V} (hl : l.length ≤ 40) (h : ∀ v ∈ l, v.s.length ≤ 200) : (l.foldl wstep ([], 0)).1.length ≤ 10000 := by
  have := foldl_wstep_len l ([], 0) h
  simp at this; omega
set_option maxHeartbeats 4000000 in
theorem codecRoundTrip_walk (A : Option Addr) (n c : Nat) (l : List V) (w : World) (hr : Rd w w.heap.size LV A n l) (hok : ∀ x ∈ l, x.Ok) (hn : n ≤ 9223372036854775807) :
    Calls Try.prog 7 #[.slice A n c] w fun e w' => e = .returned (.bool true) ∧ Below w.heap.size w w' := by
  have hsl : ∀ v ∈ l, v.s.length ≤ 9223372036854775807 := fun v hv => by have := (hok v hv).s1; unfold maxLen at this; omega
  have hcut := cut_ok l hok
  have hlen : ((l.take 40).map cutV).length ≤ 40 := by simp; omega
  go_enter Try.func7, Try.ntmps7
  go_wp2_with fail
  refine (short_any A n c l w hr hn hsl).mono ?_
  rintro e w0 ⟨A0, n0, c0, rfl, hown0, hb0⟩
  generalize (l.take 40).map cutV = l0 at hcut hlen hown0
  have hn0 : n0 ≤ 40 := by have := hown0.cap; omega
  have hrd0 := hown0.rd
  clear hr hok hsl hown0
  go_wp2_with fail
  refine (most_any A0 n0 c0 l0 w0 hrd0 hn0 (fun v hv => (hcut v hv).2)).mono ?_
  rintro e w1 ⟨A1, n1, c1, rfl, hown1, hb01⟩
  have hall : ∀ v ∈ l0.map mostV, v.fits ∧ v.Ok ∧ v.s.length ≤ 200 := fun v hv => by
    obtain ⟨y, hy, rfl⟩ := List.mem_map.1 hv
    have hh := hcut y hy
    exact ⟨mostV_fits y, mostV_ok y hh.1 hh.2, hh.2⟩
  have hlen1 : (l0.map mostV).length ≤ 40 := by simpa using hlen
  generalize l0.map mostV = l1 at hall hlen1 hown1
  have hb1 : Below w.heap.size w w1 := hb0.trans (hb01.mono hb0.size)
  have hn1 : n1 ≤ 40 := by have := hown1.cap; omega
  have hr1 := hown1.rd
  have HR := Lib.hid hr1; have HAll := Lib.hid hall; have HLen := Lib.hid hlen1; have HCap := Lib.hid hown1.cap.1
  clear hrd0 hb0 hb01 hcut hlen hall hlen1 hown1 hr1
  go_wp2_with fail
  refine (new_any w1).mono ?_
  rintro e w2 ⟨rfl, hw2, hb2⟩
  have hs2 := hw2.blk.lt
  go_wp2_with fail
  refine (writeAll_any w1.heap.size w1.heap.size _ [] 0 A1 n1 c1 l1 w2 hw2 (HR.out.after hb2) (fun h ad had hx => by
    have := HR.out.lt h ad had
    rcases hx with hx | hx
    · omega
    · cases hx) hn1 (fun v hv => (HAll.out v hv).2) (by simp)).mono ?_
  rintro e w3 h3
  have hb3 := WPost.belowB hb2 hw2 h3 (Nat.le_refl _)
  obtain ⟨rfl, v3, hw3, _, _⟩ := h3
  have hfl := Wr.bytes_le HLen.out (fun v hv => (HAll.out v hv).2.2)
  generalize hfin : l1.foldl wstep ([], 0) = fin at hw3 hfl
  obtain ⟨fo, ff⟩ := fin
  simp only at hw3 hfl
  have HF := Lib.hid hfin; clear hfin hw2 hb2
  go_wp2_with fail
  refine (bytes_any _ _ _ _ _ w3 hw3 (by omega)).mono ?_
  rintro e w4 ⟨A4, m4, c4, rfl, hown4, hb4⟩
  have hb14 : Below w1.heap.size w1 w4 := hb3.trans (hb4.mono hb3.size)
  have hbw4 : Below w.heap.size w w4 := hb1.trans (hb14.mono hb1.size)
  have HB4 := Lib.hid hbw4; have HB14 := Lib.hid hb14
  clear hb3 hb4 hw3 hb14 hbw4
  by_cases hff : ff = 0
  · subst hff
    have hgood := fold_zero l1 [] (by rw [HF.out])
    have hfo : fo = l1.flatMap encV := by have := fold_good l1 [] hgood; rw [HF.out] at this; simpa using this
    have hrt := round_trip l1 fun v hv => ⟨hgood v hv, HAll.out v hv⟩
    rw [← hfo] at hrt
    have HRT := Lib.hid hrt
    have hg4 : gives fo 0 = fo := rfl
    rw [hg4] at hown4
    have hm4 : m4 = fo.length := hown4.cap.1.symm
    have HM4 := Lib.hid hm4
    have hm4' : m4 ≤ 10000 := by omega
    have hr4 := hown4.rd
    clear hgood hfo hrt hg4 hown4 hm4
    go_wp2_with fail
    refine (rnew_any A4 m4 c4 fo w4 hr4 (by omega)).mono ?_
    rintro e w5 ⟨g5, A5, n5, c5, rfl, hrs5, hg5, hA5, hb5⟩
    have hs5 := hb5.size
    have hr5 := (HR.out.after HB14.out).after hb5
    have hs14 := HB14.out.size
    have HN5 := Lib.hid hrs5.rd.len
    go_wp2_with fail
    refine (readAll_any g5 A5 n5 c5 fo A1 n1 c1 l1 w5 hrs5 hr5 (fun h ad had => by have := HR.out.lt h ad had; omega) hn1).mono ?_
    rintro e w6 ⟨A6, m6, c6, rfl, hown6, hrs6, hk6⟩
    rw [HRT.out] at hown6 hrs6
    simp only at hown6 hrs6
    have hkb : Below w1.heap.size w1 w6 := (HB14.out.trans (hb5.mono hs14)).trans (hk6.below (by omega) fun q hq h => by omega)
    have hr6 : Rd w6 w6.heap.size LV A1 n1 l1 := HR.out.after hkb
    have hg6 := hown6.rd
    have hm6 : m6 = n1 := by have h1 := hown6.cap.1; have h2 := HCap.out; simp at h1; omega
    subst hm6
    have HR6 := Lib.hid hr6; have HG6 := Lib.hid hg6; have HRS6 := Lib.hid hrs6; have HKB := Lib.hid hkb
    clear hr4 hrs5 hr5 hb5 hown6 hrs6 hk6 hkb hr6 hg6 hA5
    go_wp2
    go_loopw [8] (fun i wr => ∃ (k j : Nat), k ≤ m6 ∧ i = .int .i64 (k : Nat) ∧ w6.drewN j = wr) (fun i _ => m6 - (intOf i).toNat)
    case atStart => exact ⟨0, 0, by omega, rfl, by first | rfl | trivial⟩
    case round =>
      obtain ⟨k, j, hk, rfl, rfl⟩ := hrel
      by_cases hlt : k < m6
      · obtain ⟨b, o, x, rfl, hab, hx, c0, c1, c2, c3, c4⟩ := HR6.out.v hlt
        obtain ⟨b', o', x', rfl, hab', hx', d0, d1, d2, d3, d4⟩ := HG6.out.v hlt
        have hxx : x' = back x := by rw [List.getElem?_map, hx] at hx'; simpa using hx'.symm
        subst hxx
        clear hx hx'
        have hk4 : x.kind.toNat % 4 < 4 := Nat.mod_lt _ (by decide)
        rcases (show x.kind.toNat % 4 = 0 ∨ x.kind.toNat % 4 = 1 ∨ x.kind.toNat % 4 = 2 ∨ x.kind.toNat % 4 = 3 by omega) with e | e | e | e
        · have hbk : (back x).kind = x.kind ∧ (back x).n = x.n := ⟨by unfold back; simp only [e], by unfold back; simp only [e]⟩
          rw [hbk.1] at d0; rw [hbk.2] at d1
          have f1 : decide ((x.kind.toNat : Int) % 4 ≤ 1) = true := by simp; omega
          have f2 : ((x.kind.toNat : Int) % 4 == 2) = false := by simp; omega
          have f3 : ((x.kind.toNat : Int) % 4 == 3) = false := by simp; omega
          clear e hbk
          go_wp2
          refine wp_region_quiet_lit (by kernel_rfl) (by kernel_rfl) ?_
          simp only [List.append]
          repeat (go_big_quiet_step (fail))
          refine wpQuiet_nil ?_
          rintro _ ⟨nq, rfl⟩
          go_wp2
          go_roundw
          case rel => exact ⟨k + 1, _, by omega, by go_num, rfl⟩
          case measure => simp [intOf]; omega
        · have hbk : (back x).kind = x.kind ∧ (back x).n = x.n := ⟨by unfold back; simp only [e], by unfold back; simp only [e]⟩
          rw [hbk.1] at d0; rw [hbk.2] at d1
          have f1 : decide ((x.kind.toNat : Int) % 4 ≤ 1) = true := by simp; omega
          have f2 : ((x.kind.toNat : Int) % 4 == 2) = false := by simp; omega
          have f3 : ((x.kind.toNat : Int) % 4 == 3) = false := by simp; omega
          clear e hbk
          go_wp2
          refine wp_region_quiet_lit (by kernel_rfl) (by kernel_rfl) ?_
          simp only [List.append]
          repeat (go_big_quiet_step (fail))
          refine wpQuiet_nil ?_
          rintro _ ⟨nq, rfl⟩
          go_wp2
          go_roundw
          case rel => exact ⟨k + 1, _, by omega, by go_num, rfl⟩
          case measure => simp [intOf]; omega
        · have hbk : (back x).kind = x.kind ∧ (back x).is = x.is := ⟨by unfold back; simp only [e], by unfold back; simp only [e]⟩
          rw [hbk.1] at d0; rw [hbk.2] at d2
          have f1 : decide ((x.kind.toNat : Int) % 4 ≤ 1) = false := by simp; omega
          have f2 : ((x.kind.toNat : Int) % 4 == 2) = true := by simp; omega
          have f3 : ((x.kind.toNat : Int) % 4 == 3) = false := by simp; omega
          clear e hbk
          go_wp2
          refine wp_region_quiet_lit (by kernel_rfl) (by kernel_rfl) ?_
          simp only [List.append]
          repeat (go_big_quiet_step (fail))
          refine wpQuiet_nil ?_
          rintro _ ⟨nq, rfl⟩
          go_wp2
          go_roundw
          case rel => exact ⟨k + 1, _, by omega, by go_num, rfl⟩
          case measure => simp [intOf]; omega
        · have hbk : (back x).kind = x.kind ∧ (back x).s = x.s := ⟨by unfold back; simp only [e], by unfold back; simp only [e]⟩
          rw [hbk.1] at d0; rw [hbk.2] at d3
          have f1 : decide ((x.kind.toNat : Int) % 4 ≤ 1) = false := by simp; omega
          have f2 : ((x.kind.toNat : Int) % 4 == 2) = false := by simp; omega
          have f3 : ((x.kind.toNat : Int) % 4 == 3) = true := by simp; omega
          clear e hbk
          go_wp2
          refine wp_region_quiet_lit (by kernel_rfl) (by kernel_rfl) ?_
          simp only [List.append]
          repeat (go_big_quiet_step (fail))
          refine wpQuiet_nil ?_
          rintro _ ⟨nq, rfl⟩
          go_wp2
          go_roundw
          case rel => exact ⟨k + 1, _, by omega, by go_num, rfl⟩
          case measure => simp [intOf]; omega
      · have hz : n5 - fo.length = 0 := by have := HN5.out; omega
        have HZ := Lib.hid hz; clear hz
        have hbj : Below w6.heap.size w6 (w6.drewN j) := below_drewN (Below.refl _ _) _
        go_wp2_with fail
        refine (known_any _).mono ?_
        rintro e w7 ⟨rfl, hb7⟩
        have hrs7 := (HRS6.out.after hbj).after hb7
        have hb67 : Below w6.heap.size w6 w7 := hbj.trans (hb7.mono hbj.size)
        have hfin : ∀ k, Below w.heap.size w (w7.drewN k) := fun k => below_drewN (hb1.trans ((HKB.out.trans (hb67.mono HKB.out.size)).mono hb1.size)) k
        have HFin := Lib.hid hfin
        clear hb7 hbj hb67 hfin
        go_wp2_with fail
        refine (rclose_any _ _ _ _ _ _ _ _ hrs7).mono ?_
        rintro e w8 ⟨rfl, k1, rfl⟩
        rw [HZ.out, show closes 0 0 = 0 from rfl]
        go_wp2_with fail
        refine (rrest_any _ _ _ _ _ _ _ _ (hrs7.drewN k1)).mono ?_
        rintro e w9 ⟨rfl, k2, rfl⟩
        rw [HZ.out]
        go_wp2
        go_returns
        exact ⟨rfl, by simpa using below_drewN (HFin.out k1) k2⟩
  · have e0 : ((ff : Int) != 0) = true := by simp; omega
    have hg4 : gives fo ff = [] := gives_failed fo ff hff
    rw [hg4] at hown4
    have hm4 : m4 = 0 := hown4.cap.1.symm
    subst hm4
    clear hown4 hg4
    go_wp2_with fail
    refine (known_any w4).mono ?_
    rintro e w5 ⟨rfl, hb5⟩
    have HB5 := Lib.hid (HB4.out.trans (hb5.mono HB4.out.size))
    go_wp2
    go_returns
    exact ⟨rfl, HB5.out⟩
end Go.Proofs.Ytogagcdlkhinjaa
