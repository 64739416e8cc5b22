/- The walk of the law CodecTruncated: bytes that are missing. -/
import Derived.Test.YtogagcdlkhinjaaCanon
import Derived.Test.YtogagcdlkhinjaaMost
import Derived.Test.YtogagcdlkhinjaaCodecRoundTripWalk
namespace Go.Proofs.Ytogagcdlkhinjaa
open Go.RowKit
set_option maxRecDepth 100000
set_option maxHeartbeats 4000000 in
theorem codecTruncated_walk (A : Option Addr) (n c : Nat) (l : List V) (kk : Nat) (w : World) (hr : Rd w w.heap.size LV A n l) (hok : ∀ x ∈ l, x.Ok) (hn : n ≤ 9223372036854775807) (hkk : kk < 65536) :
    Calls Try.prog 9 #[.slice A n c, .int .u16 (kk : Nat)] w fun e w' => e = .returned (.bool true) ∧ Below w.heap.size w w' := by
  have hsl : ∀ v ∈ l, v.s.length ≤ 9223372036854775807 := fun v hv => by have := (hok v hv).s1; unfold maxLen at this; omega
  have hcut := cut_ok l hok
  have hlen : ((l.take 40).map cutV).length ≤ 40 := by simp; omega
  go_enter Try.func9, Try.ntmps9
  go_wp2_with fail
  refine (short_any A n c l w hr hn hsl).mono ?_
  rintro e w0 ⟨A0, n0, c0, rfl, hown0, hb0⟩
  generalize (l.take 40).map cutV = l0 at hcut hlen hown0
  have hn0 : n0 ≤ 40 := by have := hown0.cap; omega
  have hrd0 := hown0.rd
  clear hr hok hsl hown0
  go_wp2_with fail
  refine (most_any A0 n0 c0 l0 w0 hrd0 hn0 (fun v hv => (hcut v hv).2)).mono ?_
  rintro e w1 ⟨A1, n1, c1, rfl, hown1, hb01⟩
  have hall : ∀ v ∈ l0.map mostV, v.fits ∧ v.Ok ∧ v.s.length ≤ 200 := fun v hv => by
    obtain ⟨y, hy, rfl⟩ := List.mem_map.1 hv
    have hh := hcut y hy
    exact ⟨mostV_fits y, mostV_ok y hh.1 hh.2, hh.2⟩
  have hlen1 : (l0.map mostV).length ≤ 40 := by simpa using hlen
  generalize l0.map mostV = l1 at hall hlen1 hown1
  have hb1 : Below w.heap.size w w1 := hb0.trans (hb01.mono hb0.size)
  have hn1 : n1 ≤ 40 := by have := hown1.cap; omega
  have hr1 := hown1.rd
  have HR := Lib.hid hr1; have HAll := Lib.hid hall; have HLen := Lib.hid hlen1; have HCap := Lib.hid hown1.cap.1
  clear hrd0 hb0 hb01 hcut hlen hall hlen1 hown1 hr1
  go_wp2_with fail
  refine (new_any w1).mono ?_
  rintro e w2 ⟨rfl, hw2, hb2⟩
  have hs2 := hw2.blk.lt
  go_wp2_with fail
  refine (writeAll_any w1.heap.size w1.heap.size _ [] 0 A1 n1 c1 l1 w2 hw2 (HR.out.after hb2) (fun h ad had hx => by
    have := HR.out.lt h ad had
    rcases hx with hx | hx
    · omega
    · cases hx) hn1 (fun v hv => (HAll.out v hv).2) (by simp)).mono ?_
  rintro e w3 h3
  have hb3 := WPost.belowB hb2 hw2 h3 (Nat.le_refl _)
  obtain ⟨rfl, v3, hw3, _, _⟩ := h3
  have hfl := Wr.bytes_le HLen.out (fun v hv => (HAll.out v hv).2.2)
  generalize hfin : l1.foldl wstep ([], 0) = fin at hw3 hfl
  obtain ⟨fo, ff⟩ := fin
  simp only at hw3 hfl
  have HF := Lib.hid hfin; clear hfin hw2 hb2
  go_wp2_with fail
  refine (bytes_any _ _ _ _ _ w3 hw3 (by omega)).mono ?_
  rintro e w4 ⟨A4, m4, c4, rfl, hown4, hb4⟩
  have hb14 : Below w1.heap.size w1 w4 := hb3.trans (hb4.mono hb3.size)
  have hbw4 : Below w.heap.size w w4 := hb1.trans (hb14.mono hb1.size)
  have HB4 := Lib.hid hbw4; have HB14 := Lib.hid hb14
  clear hb3 hb4 hw3 hb14 hbw4
  by_cases hff : ff = 0
  · subst hff
    have hgood := fold_zero l1 [] (by rw [HF.out])
    have hfo : fo = l1.flatMap encV := by have := fold_good l1 [] hgood; rw [HF.out] at this; simpa using this
    have hg4 : gives fo 0 = fo := rfl
    rw [hg4] at hown4
    have hm4 : m4 = fo.length := hown4.cap.1.symm
    have hcp4 := hown4.cap.2
    have hm4' : m4 ≤ 10000 := by omega
    by_cases hm0 : m4 = 0
    · subst hm0
      clear hown4 hgood hfo hg4 hm4 hcp4
      go_wp2_with fail
      refine (known_any w4).mono ?_
      rintro e w5 ⟨rfl, hb5⟩
      have HB5 := Lib.hid (HB4.out.trans (hb5.mono HB4.out.size))
      go_wp2
      go_returns
      exact ⟨rfl, HB5.out⟩
    · have e0 : ((m4 : Int) == 0) = false := by simp; omega
      obtain ⟨k, hk⟩ : ∃ k, k = kk % m4 := ⟨_, rfl⟩
      have hkm : k < m4 := by rw [hk]; exact Nat.mod_lt _ (by omega)
      have hmod : ((kk : Nat) : Int).tmod (m4 : Int) = ((k : Nat) : Int) := by rw [hk, Int.ofNat_tmod]
      have hmod2 : ((kk : Nat) : Int) % (m4 : Int) = ((k : Nat) : Int) := by rw [hk]; rfl
      have hr4 := (hown4.rd).upto (k := k) (by omega)
      have htr := truncated l1 k (fun v hv => ⟨hgood v hv, HAll.out v hv⟩) (by rw [← hfo]; omega)
      rw [← hfo] at htr
      generalize fo.take k = ft at hr4 htr
      have HR4 := Lib.hid hr4; have HTr := Lib.hid htr; have HM4 := Lib.hid hm4
      clear hown4 hr4 hfo hg4 htr hk hm4 hgood
      go_wp2_with fail
      refine (rnew_any A4 k c4 ft w4 HR4.out (by omega)).mono ?_
      rintro e w5 ⟨g5, A5, n5, c5, rfl, hrs5, hg5, hA5, hb5⟩
      have hs5 := hb5.size
      have hr5 := (HR.out.after HB14.out).after hb5
      have hs14 := HB14.out.size
      clear hmod hmod2
      go_wp2_with fail
      refine (readAll_any g5 A5 n5 c5 ft A1 n1 c1 l1 w5 hrs5 hr5 (fun h ad had => by have := HR.out.lt h ad had; omega) hn1).mono ?_
      rintro e w6 ⟨A6, m6, c6, rfl, _, hrs6, hk6⟩
      rw [HTr.out] at hrs6
      have hkb : Below w.heap.size w w6 := hb1.trans (((HB14.out.trans (hb5.mono hs14)).trans (hk6.below (by omega) fun q hq h => by omega)).mono hb1.size)
      generalize (rall ft l1).2.1 = at_ at hrs6
      have HKB := Lib.hid hkb
      clear hrs5 hr5 hb5 hk6 hkb hA5
      go_wp2_with fail
      refine (rfailed_any _ _ _ _ _ _ _ _ hrs6).mono ?_
      rintro e w7 ⟨rfl, j1, rfl⟩
      rw [if_neg (by decide)]
      have hrs7 := hrs6.drewN j1
      have HKB7 := Lib.hid (below_drewN HKB.out j1)
      clear hrs6
      go_wp2_with fail
      refine (known_any _).mono ?_
      rintro e w8 ⟨rfl, hb8⟩
      have hrs8 := hrs7.after hb8
      have HB8 := Lib.hid (HKB7.out.trans (hb8.mono HKB7.out.size))
      clear hb8 hrs7
      go_wp2_with fail
      refine (rclose_any _ _ _ _ _ _ _ _ hrs8).mono ?_
      rintro e w9 ⟨rfl, j2, rfl⟩
      rw [show closes (n5 - at_) 28 = 28 by unfold closes; rw [if_neg (by simp)]]
      go_wp2
      go_returns
      exact ⟨rfl, below_drewN HB8.out j2⟩
  · have e0 : ((ff : Int) != 0) = true := by simp; omega
    have hg4 : gives fo ff = [] := gives_failed fo ff hff
    rw [hg4] at hown4
    have hm4 : m4 = 0 := hown4.cap.1.symm
    subst hm4
    clear hown4 hg4
    go_wp2_with fail
    refine (known_any w4).mono ?_
    rintro e w5 ⟨rfl, hb5⟩
    have HB5 := Lib.hid (HB4.out.trans (hb5.mono HB4.out.size))
    go_wp2
    go_returns
    exact ⟨rfl, HB5.out⟩
end Go.Proofs.Ytogagcdlkhinjaa
