/- Decode: what it reads, and its walk up to the bits (under way). -/
import Derived.Test.YtbeemkamjachpaaB29
import Derived.Test.YtbeemkamjachpaaCReaderM
import Derived.Test.YtbeemkamjachpaaCTextR
namespace Go.Proofs.Ytbeemkamjachpaa
open Go.RowKit
set_option maxRecDepth 100000
/-- The first number of an encoding, the second, and the bits: value, offset, error. -/
def dec1 (l : List UInt8) : Nat × Nat × Nat := stepR 0 0 0 (rNum 1073741824 (l.drop 0))
def dec2 (l : List UInt8) : Nat × Nat × Nat := stepR 0 (dec1 l).2.1 (dec1 l).2.2 (rNum 65536 (l.drop (dec1 l).2.1))
def dec3 (l : List UInt8) : List UInt8 × Nat × Nat := stepR [] (dec2 l).2.1 (dec2 l).2.2 (rText ((((dec2 l).1 + 7) / 8 : Nat) : Int) (l.drop (dec2 l).2.1))
theorem rNum_le (m : Nat) (l : List UInt8) : (rNum (m : Int) l).1 ≤ m := by
  unfold rNum
  split
  · exact Nat.zero_le _
  · rename_i h
    by_cases h0 : (grp l 9).2.2 = 0
    · have : ¬ ((m : Int) < ((grp l 9).1 : Int)) := fun hh => h ⟨h0, hh⟩
      omega
    · have := (grp_zero l 9 h0).1
      omega
theorem stepR_le {m at_ f : Nat} {r : Nat × Nat × Nat} (h : r.1 ≤ m) : (stepR 0 at_ f r).1 ≤ m := by
  unfold stepR
  split
  · exact Nat.zero_le _
  · split
    · exact Nat.zero_le _
    · exact h
theorem dec1_le (l : List UInt8) : (dec1 l).1 ≤ 1073741824 := stepR_le (rNum_le 1073741824 _)
theorem dec2_le (l : List UInt8) : (dec2 l).1 ≤ 65536 := stepR_le (rNum_le 65536 _)
/-- Whether a bit is set, as the program reckons it. -/
def bitB (bs : List UInt8) (i : Nat) : Bool := bits .and .u8 (((bs.getD (i / 8) 0).toNat : Int) / 2 ^ (i % 8)) 1 == 1
/-- The blocks whose bits are set, of the first k. -/
def usedL (f : Nat) (bs : List UInt8) (k : Nat) : List Int := ((List.range k).filter fun i => bitB bs i).map fun i => (f : Int) + (i : Nat)
theorem usedL_succ (f : Nat) (bs : List UInt8) (k : Nat) : usedL f bs (k + 1) = usedL f bs k ++ if bitB bs k = true then [(f : Int) + (k : Nat)] else [] := by
  unfold usedL
  rw [List.range_succ, List.filter_append, List.map_append]
  congr 1
  by_cases h : bitB bs k = true
  · rw [if_pos h, List.filter_cons, if_pos h]; rfl
  · rw [if_neg h, List.filter_cons, if_neg h]; rfl
theorem usedL_len (f : Nat) (bs : List UInt8) (k : Nat) : (usedL f bs k).length ≤ k := by
  unfold usedL
  rw [List.length_map]
  have := List.length_filter_le (fun i => bitB bs i) (List.range k)
  simpa using this
/-- What Decode makes of an encoding: the first block and the states, or nothing. -/
def decV (f n : Nat) (bs : List UInt8) (er : Nat) : Option (Nat × List UInt8) :=
  if er ≠ 0 ∨ bs.length ≠ (n + 7) / 8 ∨ n < 1 ∨ (ldL f (List.replicate n 0) (usedL f bs (8 * bs.length))).1 ≠ 0 then none else some (f, (ldL f (List.replicate n 0) (usedL f bs (8 * bs.length))).2)
def decR (l : List UInt8) : Option (Nat × List UInt8) := decV (dec1 l).1 (dec2 l).1 (dec3 l).1 (closes (l.length - (dec3 l).2.1) (dec3 l).2.2)
set_option maxHeartbeats 2000000 in
theorem decode_any (l : List UInt8) (W : World) (hl : l.length ≤ 1000000) : Calls Try.prog 35 #[.string (str l)] W fun e w' =>
    ((decR l = none ∧ e = .returned (.tuple #[.pointer none, .int .i64 3])) ∨ (∃ f l' b s, decR l = some (f, l') ∧ e = .returned (.tuple #[.pointer (some ⟨b, 0, none⟩), .int .i64 0]) ∧ MpAt w' b s f l' ∧ W.heap.size ≤ s)) ∧ Below W.heap.size W w' := by
  have h1 := dec1_le l; have h2 := dec2_le l
  have HD1 := Lib.hid (show stepR 0 0 0 (rNum 1073741824 (l.drop 0)) = dec1 l from rfl)
  have HD2 := Lib.hid (show stepR 0 (dec1 l).2.1 (dec1 l).2.2 (rNum 65536 (l.drop (dec1 l).2.1)) = dec2 l from rfl)
  obtain ⟨n, hn⟩ : ∃ n, n = (dec2 l).1 := ⟨_, rfl⟩
  obtain ⟨q, hq⟩ : ∃ q, q = (n + 7) / 8 := ⟨_, rfl⟩
  have hn' : (dec2 l).1 = n := hn.symm
  have hq1 : ((n : Int) + 7) / 8 = (q : Nat) := by omega
  have HD3 := Lib.hid (show stepR [] (dec2 l).2.1 (dec2 l).2.2 (rText (q : Int) (l.drop (dec2 l).2.1)) = dec3 l by unfold dec3; rw [← hn, ← hq])
  have HQ := Lib.hid hq; have HN := Lib.hid hn'
  rw [hn'] at h2
  clear hn hq hn'
  go_enter Try.func35, Try.ntmps35
  go_wp2_with (refine conv_s rfl 9 78 (.tmp 12) rfl Try.underlying9 Try.underlying78 Try.underlying5 l rfl ?_)
  intro A1 c1 w1 hr1 hA1 hb1
  have R1 := Lib.hid hr1; have B1 := Lib.hid hb1
  clear hr1 hb1 hA1
  go_wp2_with fail
  refine (rnew_any A1 l.length c1 l w1 R1.out (by omega)).mono ?_
  rintro e w2 ⟨g, A2, n2, c2, rfl, hrs, hg, hA2, hb⟩
  have S2 := Lib.hid hrs; have B2 := Lib.hid (B1.out.trans (hb.mono B1.out.size))
  have hgW : W.heap.size ≤ g := Nat.le_trans B1.out.size hg
  clear hrs hb hA2 R1 B1 hg
  go_wp2_with fail
  refine (crnumber_any g A2 n2 c2 l 0 0 1073741824 w2 S2.out).mono ?_
  rintro e w3 ⟨rfl, hrs, hk⟩
  rw [HD1.out] at hrs ⊢
  have S3 := Lib.hid hrs; have B3 := Lib.hid (B2.out.trans (hk.below B2.out.size fun i hi e => by omega))
  clear hrs hk S2 B2
  go_wp2_with fail
  refine (crnumber_any g A2 n2 c2 l _ _ 65536 w3 S3.out).mono ?_
  rintro e w4 ⟨rfl, hrs, hk⟩
  rw [HD2.out] at hrs ⊢
  have S4 := Lib.hid hrs; have B4 := Lib.hid (B3.out.trans (hk.below B3.out.size fun i hi e => by omega))
  clear hrs hk S3 B3
  rw [HN.out]
  generalize hf : (dec1 l).1 = f at h1
  have HF := Lib.hid hf
  clear hf
  go_wp2_with fail
  refine (rtext_any g A2 n2 c2 l _ _ (q : Int) w4 S4.out).mono ?_
  rintro e w5 ⟨rfl, hrs, hk⟩
  rw [HD3.out] at hrs ⊢
  have S5 := Lib.hid hrs; have B5 := Lib.hid (B4.out.trans (hk.below B4.out.size fun i hi e => by omega))
  clear hrs hk S4 B4
  go_wp2_with fail
  refine (rclose_any g A2 n2 c2 l _ _ w5 S5.out).mono ?_
  rintro e w6 ⟨rfl, k6, rfl⟩
  have B6 := Lib.hid (below_drewN B5.out k6)
  have HL2 := Lib.hid S5.out.rd.len
  clear S5 B5
  generalize w5.drewN k6 = w6 at B6 ⊢
  have hdr : decR l = decV f n (dec3 l).1 (closes (n2 - (dec3 l).2.1) (dec3 l).2.2) := by unfold decR; rw [HF.out, HN.out, HL2.out]
  generalize closes (n2 - (dec3 l).2.1) (dec3 l).2.2 = er at hdr ⊢
  generalize (dec3 l).1 = bs at hdr ⊢
  have HDR := Lib.hid hdr
  clear hdr
  by_cases her : er = 0
  · subst her
    by_cases hbq : bs.length = q
    · have hsz : (str bs).size = q := hbq
      have e0 : ((q : Int) != (q : Int)) = false := by simp
      go_wp2
      have hq8 : q ≤ 8193 := by omega
      have HQ1 := Lib.hid hq1
      clear hq1
      go_loopw [8, 38] (fun u v wr => ∃ k : Nat, k ≤ 8 * q ∧ v = .int .i64 (k : Nat) ∧ Below W.heap.size W wr ∧ Own wr W.heap.size 3 LI u (usedL f bs k)) (fun _ v _ => 8 * q - (intOf v).toNat)
      case atStart => exact ⟨0, by omega, rfl, B6.out, Own.nil_⟩
      case round =>
        obtain ⟨k, hk, rfl, hb, hown⟩ := hrel
        obtain ⟨uA, un, uc, rfl⟩ := hown.sl
        have hul := usedL_len f bs k
        have hun := hown.cap.1
        have hst := usedL_succ f bs k
        have HO := Lib.hid hown; have HB := Lib.hid hb
        clear hown hb
        by_cases hlt : k < 8 * q
        · obtain ⟨j, hj⟩ : ∃ j, j = k / 8 := ⟨_, rfl⟩
          obtain ⟨r, hr⟩ : ∃ r, r = k % 8 := ⟨_, rfl⟩
          have hjq : j < (str bs).size := by rw [hsz]; omega
          have hgt := str_get bs j hjq
          have hbit : bitB bs k = (bits .and .u8 (((str bs)[j]'hjq).toNat / 2 ^ r) 1 == 1) := by unfold bitB; rw [← hj, ← hr, hgt]
          have k1 : ((k : Nat) : Int) / 8 = (j : Nat) := by omega
          have k2 : ((k : Nat) : Int) % 8 = (r : Nat) := by omega
          have hr8 : r < 8 := by omega
          clear hj hr hgt
          generalize usedL f bs k = cur at HO hst hul hun
          have efk : (f : Int) + (k : Nat) ≤ 9223372036854775807 := by omega
          by_cases hbt : bitB bs k = true
          · rw [if_pos hbt] at hst
            rw [hbt] at hbit
            have HS := Lib.hid hst
            have hb1 := hbit.symm
            clear hbt hst hbit
            go_wp2_with (at_builtin; refine ap_one _ rfl _ _ ElI rfl W.heap.size _ cur rfl (HO.out.alloc _) ⟨wr.heap.size, 0, none⟩ 1 ((f : Int) + (k : Nat)) rfl ?c1 ?c2 ?c3 ?c4 ?_)
            case c1 => exact new_at rfl
            case c2 => omega
            case c3 => omega
            case c4 => have := HB.out.size; simp; omega
            intro A' c' w' hown' hg _ _ _
            have hb' : Below W.heap.size W w' := (HO.out.alloc _).belowGrown (HB.out.alloc HB.out.size _) (by have := HB.out.size; simp; omega) (Nat.le_refl _) hg
            rw [← HS.out] at hown'
            have HO' := Lib.hid hown'; have HB' := Lib.hid hb'
            clear hown' hb' hg HO HB
            go_wp2
            go_roundw
            case rel => exact ⟨k + 1, by omega, by go_num, HB'.out, HO'.out⟩
            case measure => simp [intOf]; omega
          · rw [if_neg hbt, List.append_nil] at hst
            have hbf : bitB bs k = false := by simpa using hbt
            rw [hbf] at hbit
            have hb1 := hbit.symm
            rw [← hst] at HO
            clear hbt hbf hst hbit
            go_wp2
            go_roundw
            case rel => exact ⟨k + 1, by omega, by go_num, HB.out, HO.out⟩
            case measure => simp [intOf]; omega
        · obtain rfl : k = 8 * q := by omega
          obtain ⟨wx, rfl⟩ : ∃ wx : World, wx = wr := ⟨_, rfl⟩
          have hq7 : q = (n + 7) / 8 := HQ.out
          clear hst
          by_cases hn0 : n < 1
          · have hdn : decR l = none := by rw [HDR.out]; unfold decV; rw [if_pos (.inr (.inr (.inl hn0)))]
            have HDN := Lib.hid hdn
            have HRg := Lib.hid (load_range (f : Nat) (n : Nat) (.slice uA un uc) wx (.inr (.inr (.inl (by omega)))))
            clear hdn
            go_wp2_with fail
            refine HRg.out.mono ?_
            rintro e w' ⟨rfl, rfl⟩
            go_wp2
            go_returns
            exact ⟨.inl ⟨HDN.out, rfl⟩, HB.out⟩
          · have hd8 : decR l = if (ldL f (List.replicate n 0) (usedL f bs (8 * q))).1 ≠ 0 then none else some (f, (ldL f (List.replicate n 0) (usedL f bs (8 * q))).2) := by
              rw [HDR.out]
              unfold decV
              rw [hbq]
              by_cases h : (ldL f (List.replicate n 0) (usedL f bs (8 * q))).1 ≠ 0
              · rw [if_pos (.inr (.inr (.inr h))), if_pos h]
              · rw [if_neg (by rintro (h' | h' | h' | h'); exact h' rfl; exact h' hq7; exact hn0 h'; exact h h'), if_neg h]
            have hub : ∀ x ∈ usedL f bs (8 * q), x ≤ 9223372036854775807 := fun x hx => by
              obtain ⟨i, hi, rfl⟩ := List.mem_map.1 hx
              have := List.mem_range.1 (List.mem_filter.1 hi).1
              omega
            have HLd := Lib.hid (load_any f n uA un uc (usedL f bs (8 * q)) wx h1 (by omega) h2 HO.out.rd (by omega) hub)
            have HD8 := Lib.hid hd8
            clear hd8 hub
            generalize ldL f (List.replicate n 0) (usedL f bs (8 * q)) = res at HLd HD8
            go_wp2_with fail
            refine HLd.out.mono ?_
            rintro e w8 ⟨(⟨h0, b, s, -, hs, -, rfl, hm⟩ | ⟨h0, rfl⟩), hb8⟩
            · have HMs := Lib.hid hm
              have HB8 := Lib.hid (HB.out.trans (hb8.mono HB.out.size))
              have hsW : W.heap.size ≤ s := Nat.le_trans HB.out.size hs
              have HH0 := Lib.hid h0
              clear hm hb8 h0 HLd hs
              go_wp2
              go_returns
              exact ⟨.inr ⟨f, res.2, b, s, by rw [HD8.out, if_neg (by rw [HH0.out]; decide)], rfl, HMs.out, hsW⟩, HB8.out⟩
            · have HB8 := Lib.hid (HB.out.trans (hb8.mono HB.out.size))
              have HH0 := Lib.hid h0
              have e9 : ((res.1 : Int) != 0) = true := by simp only [bne_iff_ne, ne_eq]; omega
              clear hb8 h0 HLd
              generalize hr1 : res.1 = er1 at e9
              go_wp2
              go_returns
              exact ⟨.inl ⟨by rw [HD8.out, if_pos HH0.out], rfl⟩, HB8.out⟩
    · have hdn : decR l = none := by rw [HDR.out]; unfold decV; rw [if_pos (.inr (.inl (by have := HQ.out; omega)))]
      have HDN := Lib.hid hdn
      have hsz : (str bs).size = bs.length := rfl
      have e1 : ((bs.length : Int) != (q : Int)) = true := by simp only [bne_iff_ne, ne_eq]; omega
      clear hdn hbq
      go_wp2
      go_returns
      exact ⟨.inl ⟨HDN.out, rfl⟩, B6.out⟩
  · have hdn : decR l = none := by rw [HDR.out]; unfold decV; rw [if_pos (.inl her)]
    have HDN := Lib.hid hdn
    have e1 : ((er : Int) != 0) = true := by simp only [bne_iff_ne, ne_eq]; omega
    clear hdn her
    go_wp2
    go_returns
    exact ⟨.inl ⟨HDN.out, rfl⟩, B6.out⟩
end Go.Proofs.Ytbeemkamjachpaa
