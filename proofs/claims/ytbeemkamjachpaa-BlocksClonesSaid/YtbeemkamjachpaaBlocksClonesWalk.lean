/- The walk of BlocksClones. -/
import Derived.Test.YtbeemkamjachpaaB29
namespace Go.Proofs.Ytbeemkamjachpaa
open Go.RowKit
set_option maxRecDepth 100000
theorem RL_inj (a b : List UInt8) : (RL a = RL b) ↔ a = b := by
  constructor
  · intro h
    unfold RL at h
    exact (List.map_inj_right (fun x y hxy => UInt8.toNat_inj.1 (by have h : (x.toNat : Int) = (y.toNat : Int) := hxy; omega))).1 h
  · rintro rfl; rfl
theorem RL_dec (a b : List UInt8) : decide (RL a = RL b) = decide (a = b) := decide_eq_decide.2 (RL_inj a b)
theorem do_any3 (b s f c kd n : Nat) (l : List UInt8) (A : Option Addr) (x : Int) (W : World) (hm : MpAt W b s f l) (hln : l.length = n) (hr : Rd W W.heap.size LI A n (RL l)) (hA : ∀ ad, A = some ad → ad.block ≠ s ∧ ad.block < W.heap.size) (hs : small l) (hx : x ≤ 9223372036854775807) (hk8 : kd < 256) :
    Calls Try.prog 15 #[.pointer (some ⟨b, 0, none⟩), .agg #[.int .i64 (f : Nat), .slice A n c], .agg #[.int .u8 (kd : Nat), .int .i64 x]] W fun e w' =>
    ∃ A2 c2, e = .returned (.tuple #[.agg #[.int .i64 (f : Nat), .slice A2 n c2], .bool true]) ∧ MpAt w' b s f (stp f l kd x) ∧ Rd w' w'.heap.size LI A2 n (RL (stp f l kd x)) ∧ (A2 = A ∨ ∀ ad, A2 = some ad → W.heap.size ≤ ad.block) ∧ Keep (fun i => i = s) W w' := by
  subst hln
  refine (do_any b s f c kd l A x W hm hr hA hs hx hk8).mono ?_
  rintro e w' ⟨v, rfl, h1, ⟨A2, c2, rfl, h2, h3⟩, h4⟩
  have hl := stp_len f l kd x
  rw [hl] at h2 ⊢
  exact ⟨A2, c2, rfl, h1, h2, h3, h4⟩
set_option maxHeartbeats 4000000 in
theorem blocksClones_walk (x y0 y1 : Nat) (hx : x < 65536) (hy0 : y0 < 256) (hy1 : y1 < 256) (B0 B1 : Option Addr) (m0 c0 m1 c1 : Nat) (o0 o1 : List OV) (W : World) (hr0 : Rd W W.heap.size LO B0 m0 o0) (ho0 : ∀ z ∈ o0, -9223372036854775808 ≤ z.block ∧ z.block ≤ 9223372036854775807) (hm0 : m0 ≤ 9223372036854775807)
    (hr1 : Rd W W.heap.size LO B1 m1 o1) (ho1 : ∀ z ∈ o1, -9223372036854775808 ≤ z.block ∧ z.block ≤ 9223372036854775807) (hm1 : m1 ≤ 9223372036854775807) :
    Calls Try.prog 8 #[.int .u16 (x : Nat), .agg #[.int .u8 (y0 : Nat), .int .u8 (y1 : Nat)], .agg #[.slice B0 m0 c0, .slice B1 m1 c1]] W fun e w' => e = .returned (.bool true) ∧ Below W.heap.size W w' := by
  obtain ⟨f, hf⟩ : ∃ f, f = x % 1000 := ⟨_, rfl⟩
  obtain ⟨n, hn⟩ : ∃ n, n = 1 + y0 % 40 := ⟨_, rfl⟩
  obtain ⟨n', hn'⟩ : ∃ n, n = 1 + y1 % 40 := ⟨_, rfl⟩
  have hn1 : 1 ≤ n ∧ n ≤ 40 := by omega
  have hn2 : 1 ≤ n' ∧ n' ≤ 40 := by omega
  have HP0 := Lib.hid (fun W' (h : Below W.heap.size W W') => play_any x y0 hx hy0 B0 m0 c0 o0 W' (hr0.after h) ho0 hm0)
  have HP1 := Lib.hid (fun W' (h : Below W.heap.size W W') => play_any x y1 hx hy1 B1 m1 c1 o1 W' (hr1.after h) ho1 hm1)
  rw [← hf, ← hn] at HP0
  rw [← hf, ← hn'] at HP1
  have HR := Lib.hid hr1; have HO := Lib.hid ho1
  have hb0 : Below W.heap.size W ((W.alloc (.cells #[.int .u8 (y0 : Nat), .int .u8 (y1 : Nat)] 57)).alloc (.cells #[.slice B0 m0 c0, .slice B1 m1 c1] 58)) := ((Below.refl _ W).alloc (Nat.le_refl _) _).alloc (by simp) _
  have ka := (Blk.new W 57 #[.int .u8 (y0 : Nat), .int .u8 (y1 : Nat)]).alloc (.cells #[.slice B0 m0 c0, .slice B1 m1 c1] 58)
  have kb := Blk.new (W.alloc (.cells #[.int .u8 (y0 : Nat), .int .u8 (y1 : Nat)] 57)) 58 #[.slice B0 m0 c0, .slice B1 m1 c1]
  simp only [World.size_alloc] at kb
  have BB := Lib.hid hb0; have KA := Lib.hid ka; have KB := Lib.hid kb
  clear hf hn hn' hx hy0 hy1 hr0 ho0 hm0 hr1 ho1 hm1 hb0 ka kb
  go_enter Try.func8, Try.ntmps8
  go_wp2_with fail
  generalize (W.alloc (.cells #[.int .u8 (y0 : Nat), .int .u8 (y1 : Nat)] 57)).alloc (.cells #[.slice B0 m0 c0, .slice B1 m1 c1] 58) = wz at BB KA KB ⊢
  refine (known_any wz).mono ?_
  rintro e w1 ⟨rfl, hb1⟩
  have B1' := Lib.hid (BB.out.trans (hb1.mono BB.out.size)); have KA1 := Lib.hid (KA.out.after hb1); have KB1 := Lib.hid (KB.out.after hb1)
  clear hb1 BB KA KB
  have a0 : w1.cell? ⟨W.heap.size, 0, none⟩ = some (.int .u8 (y0 : Nat)) := KA1.out.cell 0
  have a2 : w1.cell? ⟨W.heap.size + 1, 0, none⟩ = some (.slice B0 m0 c0) := KB1.out.cell 0
  go_wp2_with fail
  refine (HP0.out w1 B1'.out).mono ?_
  rintro e w2 ⟨v, v2, rfl, ⟨b, s, l, A, c, rfl, rfl, hmp, hsm, hln, hrd, hA, hs⟩, hb⟩
  have hbl := (Below.refl _ w2).alloc (Nat.le_refl _) (.cells #[.int .i64 (f : Nat), .slice A n c] 28)
  have hb2 := hb.trans (hbl.mono hb.size)
  have B2 := Lib.hid (B1'.out.trans (hb2.mono B1'.out.size)); have KA2 := Lib.hid (KA1.out.after hb2); have KB2 := Lib.hid (KB1.out.after hb2)
  have M2 := Lib.hid (hmp.after hbl); have R2 := Lib.hid (hrd.after hbl); have T2 := Lib.hid (Blk.new w2 28 #[.int .i64 (f : Nat), .slice A n c])
  have HA : Hid (∀ ad, A = some ad → ad.block < w2.heap.size) := Lib.hid fun ad had => (hA ad had).2
  have hslt : s < w2.heap.size := hmp.lt.2
  have hsW : W.heap.size ≤ s := Nat.le_trans B1'.out.size hs
  have HSm := Lib.hid hsm; have HLn := Lib.hid hln
  clear hb hbl hb2 hmp hsm hln hrd hA hs B1' KA1 KB1 a0 a2 HP0
  have a1 : (w2.alloc (.cells #[.int .i64 (f : Nat), .slice A n c] 28)).cell? ⟨W.heap.size, 1, none⟩ = some (.int .u8 (y1 : Nat)) := KA2.out.cell 1
  have a3 : (w2.alloc (.cells #[.int .i64 (f : Nat), .slice A n c] 28)).cell? ⟨W.heap.size + 1, 1, none⟩ = some (.slice B1 m1 c1) := KB2.out.cell 1
  unfold RM
  go_wp2_with fail
  clear a1 a3
  have hsz2 : (w2.alloc (.cells #[.int .i64 (f : Nat), .slice A n c] 28)).heap.size = w2.heap.size + 1 := by simp
  have Z2 := Lib.hid hsz2
  clear hsz2
  generalize w2.alloc (.cells #[.int .i64 (f : Nat), .slice A n c] 28) = wa at B2 KA2 KB2 M2 R2 T2 Z2 ⊢
  refine (HP1.out wa B2.out).mono ?_
  rintro e w3 ⟨v, v2, rfl, ⟨b', s', l', A', c', rfl, rfl, hmp, hsm, hln, hrd, hA, hs⟩, hb⟩
  have hbl := (Below.refl _ w3).alloc (Nat.le_refl _) (.cells #[.int .i64 (f : Nat), .slice A' n' c'] 28)
  have hb3 := hb.trans (hbl.mono hb.size)
  have B3 := Lib.hid (B2.out.trans (hb3.mono B2.out.size)); have KB3 := Lib.hid (KB2.out.after hb3); have M3 := Lib.hid (M2.out.after hb3); have R3 := Lib.hid (R2.out.after hb3); have T3 := Lib.hid (T2.out.after hb3)
  have N3 := Lib.hid (hmp.after hbl); have S3 := Lib.hid (hrd.after hbl); have U3 := Lib.hid (Blk.new w3 28 #[.int .i64 (f : Nat), .slice A' n' c'])
  have HLn' := Lib.hid hln
  clear hb hbl hb3 hmp hsm hln hrd hA hs B2 KA2 KB2 M2 R2 T2 HP1
  unfold RM
  go_wp2
  generalize w3.alloc (.cells #[.int .i64 (f : Nat), .slice A' n' c'] 28) = wb at B3 KB3 M3 R3 T3 N3 S3 U3 ⊢
  have hE := regrow_call (P := Try.prog) (f := 32) (args := #[.pointer (some ⟨b, 0, none⟩), .pointer (some ⟨b', 0, none⟩)]) (w := wb) (v := .bool (decide (l = l'))) (fun W' hW' => equal_any b s f l b' s' f l' W' (M3.out.after hW') (N3.out.after hW') rfl)
  have hSm := regrow_call (P := Try.prog) (f := 28) (args := #[.slice A n c, .slice A' n' c']) (w := wb) (v := .bool (decide (l = l'))) (fun W' hW' => by
    have h := same_any A n c (RL l) A' n' c' (RL l') W' (by have := R3.out.after hW'; rw [HLn.out] at this; exact this) (by have := S3.out.after hW'; rw [HLn'.out] at this; exact this) (by omega)
    rw [RL_dec] at h
    exact h)
  generalize decide (l = l') = r at hE hSm
  have HE := Lib.hid hE; have HSm2 := Lib.hid hSm
  have g0 : ∀ d os, (Go.Sort.grow (redrawn wb d) os).cell? ⟨w2.heap.size, 1, none⟩ = some (.slice A n c) := regrow (p := fun W' => W'.cell? ⟨w2.heap.size, 1, none⟩ = some (.slice A n c)) fun W' hW' => (T3.out.after hW').cell 1
  have g1 : ∀ d os, (Go.Sort.grow (redrawn wb d) os).cell? ⟨w3.heap.size, 1, none⟩ = some (.slice A' n' c') := regrow (p := fun W' => W'.cell? ⟨w3.heap.size, 1, none⟩ = some (.slice A' n' c')) fun W' hW' => (U3.out.after hW').cell 1
  clear hE hSm
  refine wp_region_quiet_below (by kernel_rfl) (by kernel_rfl) ?_
  repeat (go_big_quiet_step (first | exact HE.out _ _ | exact HSm2.out _ _))
  refine wpQuiet_nil ?_
  rintro _ ⟨⟨dq, osq⟩, rfl⟩
  have hb := below_regrown wb dq osq
  have B4 := Lib.hid (B3.out.trans (hb.mono B3.out.size)); have KB4 := Lib.hid (KB3.out.after hb); have M4 := Lib.hid (M3.out.after hb); have R4 := Lib.hid (R3.out.after hb); have T4 := Lib.hid (T3.out.after hb)
  have Z4 : Hid (w2.heap.size + 1 ≤ (Go.Sort.grow (redrawn wb dq) osq).heap.size) := Lib.hid (by have h1 := T4.out.lt; omega)
  clear hb B3 KB3 M3 R3 T3 N3 S3 U3 g0 g1 HE HSm2
  generalize Go.Sort.grow (redrawn wb dq) osq = w4 at B4 KB4 M4 R4 T4 Z4 ⊢
  go_wp2_with fail
  refine (clone_any b s f l w4 M4.out (by have := HLn.out; omega)).mono ?_
  rintro e w5 ⟨b3, s3, rfl, hm5, hs5, hb⟩
  have B5 := Lib.hid (B4.out.trans (hb.mono B4.out.size)); have KB5 := Lib.hid (KB4.out.after hb); have M5 := Lib.hid (M4.out.after hb); have R5 := Lib.hid (R4.out.after hb); have T5 := Lib.hid (T4.out.after hb); have C5 := Lib.hid hm5
  have hs3 : w2.heap.size + 1 ≤ s3 := Nat.le_trans Z4.out hs5
  have hKBs : W.heap.size + 1 < w4.heap.size := KB4.out.lt
  have hKB3 : W.heap.size + 1 < s3 := Nat.lt_of_lt_of_le hKBs hs5
  clear hb hm5 hs5 B4 KB4 M4 R4 T4 Z4 hKBs
  go_wp2_with fail
  refine (equal_any b3 s3 f l b s f l w5 C5.out M5.out rfl).mono ?_
  rintro e w6 ⟨rfl, hb⟩
  rw [decide_eq_true (rfl : l = l)]
  have B6 := Lib.hid (B5.out.trans (hb.mono B5.out.size)); have KB6 := Lib.hid (KB5.out.after hb); have M6 := Lib.hid (M5.out.after hb); have R6 := Lib.hid (R5.out.after hb); have T6 := Lib.hid (T5.out.after hb); have C6 := Lib.hid (C5.out.after hb)
  clear hb B5 KB5 M5 R5 T5 C5
  have t0 : w6.cell? ⟨w2.heap.size, 0, none⟩ = some (.int .i64 (f : Nat)) := T6.out.cell 0
  have t1 : w6.cell? ⟨w2.heap.size, 1, none⟩ = some (.slice A n c) := T6.out.cell 1
  have hbl := (Below.refl _ w6).alloc (Nat.le_refl _) (.cells #[.int .i64 (f : Nat), .slice A n c] 28)
  have B7 := Lib.hid (B6.out.trans (hbl.mono B6.out.size)); have KB7 := Lib.hid (KB6.out.after hbl); have M7 := Lib.hid (M6.out.after hbl); have R7 := Lib.hid (R6.out.after hbl); have T7 := Lib.hid (T6.out.after hbl); have C7 := Lib.hid (C6.out.after hbl); have Y7 := Lib.hid (Blk.new w6 28 #[.int .i64 (f : Nat), .slice A n c])
  have hT6 : w2.heap.size < w6.heap.size := T6.out.lt
  have hC6 := C6.out.lt
  have hM6 := M6.out.lt
  have hKB6 : W.heap.size + 1 < w6.heap.size := KB6.out.lt
  clear hbl B6 KB6 M6 R6 T6 C6
  go_wp2
  clear t0 t1
  generalize w6.alloc (.cells #[.int .i64 (f : Nat), .slice A n c] 28) = w7 at B7 KB7 M7 R7 T7 C7 Y7 ⊢
  have ne1 : b ≠ s3 := by
    obtain ⟨_, _, _, k1⟩ := M7.out.blk; obtain ⟨_, k2⟩ := C7.out.st; exact k1.ne_ k2 (by decide)
  go_loopw [15] (fun v wr => ∃ (k : Nat) (l3 : List UInt8) (A3 : Option Addr) (c3 : Nat), k ≤ m1 ∧ k ≤ 60 ∧ v = .int .i64 (k : Nat) ∧ MpAt wr b3 s3 f l3 ∧ small l3 ∧ l3.length = n ∧ Rd wr wr.heap.size LI A3 n (RL l3) ∧ (∀ ad, A3 = some ad → ad.block ≠ s3 ∧ ad.block < wr.heap.size ∧ ad.block ≠ w6.heap.size) ∧ MpAt wr b s f l ∧ Rd wr wr.heap.size LI A n (RL l) ∧ Blk wr w2.heap.size 28 #[.int .i64 (f : Nat), .slice A n c] ∧ Blk wr w6.heap.size 28 #[.int .i64 (f : Nat), .slice A3 n c3] ∧ Blk wr (W.heap.size + 1) 58 #[.slice B0 m0 c0, .slice B1 m1 c1] ∧ Below W.heap.size W wr) (fun v _ => 60 - (intOf v).toNat)
  case atStart => exact ⟨0, l, A, c, by omega, by omega, rfl, C7.out, HSm.out, HLn.out, by have := R7.out; rw [HLn.out] at this; exact this, fun ad had => by have h1 := HA.out ad had; have h2 := Y7.out.lt; exact ⟨by omega, by omega, by omega⟩, M7.out, by have := R7.out; rw [HLn.out] at this; exact this, T7.out, Y7.out, KB7.out, B7.out⟩
  case round =>
    obtain ⟨k, l3, A3, c3, hk, hk60, rfl, hcp, hsm, hln, hrd, hA3, hmp, hrm, hT, hY, hK, hb⟩ := hrel
    clear B7 KB7 M7 R7 T7 C7 Y7
    have hy0 : wr.cell? ⟨w6.heap.size, 0, none⟩ = some (.int .i64 (f : Nat)) := hY.cell 0
    have hy1 : wr.cell? ⟨w6.heap.size, 1, none⟩ = some (.slice A3 n c3) := hY.cell 1
    have hk1 : wr.cell? ⟨W.heap.size + 1, 1, none⟩ = some (.slice B1 m1 c1) := hK.cell 1
    by_cases hgo : k < m1 ∧ k < 60
    · obtain ⟨hlt, hlt60⟩ := hgo
      obtain ⟨ba, o, z, rfl, -, hz, hcz⟩ := (HR.out.below hb).nth hlt
      have hzb := HO.out z (List.mem_of_getElem? hz)
      have d0 : wr.cell? ⟨ba, o + k * 2, none⟩ = some (.int .u8 (z.kind.toNat : Int)) := hcz 0 _ rfl
      have d1 : wr.cell? ⟨ba, o + k * 2 + 1, none⟩ = some (.int .i64 z.block) := hcz 1 _ rfl
      have hkd : z.kind.toNat < 256 := z.kind.toNat_lt
      generalize z.kind.toNat = kd at d0 hkd
      generalize z.block = zb at d1 hzb
      have hdo := do_any3 b3 s3 f c3 kd n l3 A3 zb wr.drew (hcp.after (below_drew wr)) hln hrd (fun ad had => ⟨(hA3 ad had).1, (hA3 ad had).2.1⟩) hsm (by omega) hkd
      have hl4 := stp_len f l3 kd zb
      rw [hln] at hl4
      have hs4 := stp_small f l3 kd zb hsm
      generalize stp f l3 kd zb = l4 at hdo hl4 hs4
      have HDo := Lib.hid hdo; have HL4 := Lib.hid hl4; have HS4 := Lib.hid hs4
      have HA3 := Lib.hid hA3; have HMp := Lib.hid hmp; have HRm := Lib.hid hrm; have HT := Lib.hid hT; have HY := Lib.hid hY; have HK := Lib.hid hK; have HB := Lib.hid hb
      have hwrs : w6.heap.size < wr.heap.size := hY.lt
      clear hcp hsm hln hrd hA3 hmp hrm hT hY hK hb hz hcz hdo hl4 hs4
      go_wp2
      go_region_with (go_at_call 15; refine (HDo.out).mono ?_; rintro e w8 ⟨A4, c4, rfl, hm8, hr8, ho8, hkp⟩; have X1 := Lib.hid hm8; have X2 := Lib.hid hr8; have X3 := Lib.hid ho8; have X4 := Lib.hid hkp; have XY := HY.out.drew.kept hkp (by show ¬ (_ = _); omega); have u0 : w8.cell? ⟨w6.heap.size, 0, none⟩ = some (.int .i64 (f : Nat)) := XY.cell 0; have u1 : w8.cell? ⟨w6.heap.size, 1, none⟩ = some (.slice A3 n c3) := XY.cell 1; have u2 := XY.frozen 0; have u3 := XY.frozen 1; have X5 := Lib.hid XY; clear hm8 hr8 ho8 hkp XY)
      all_goals
        have hkT : Keep (fun i => i = w6.heap.size) w8 ((w8.setCell ⟨w6.heap.size, 0, none⟩ (.int .i64 (f : Nat))).setCell ⟨w6.heap.size, 1, none⟩ (.slice A4 n c4)) := ((Keep.refl (fun i => i = w6.heap.size) w8).setCell (p := ⟨w6.heap.size, 0, none⟩) (fun _ => rfl) _).setCell (p := ⟨w6.heap.size, 1, none⟩) (fun _ => rfl) _
        have hA4 : ∀ ad, A4 = some ad → ad.block ≠ s3 ∧ ad.block < w8.heap.size ∧ ad.block ≠ w6.heap.size := fun ad had => by
          have hub := X2.out.lt (by omega) ad had
          rcases X3.out with rfl | ho2
          · have := HA3.out ad had; exact ⟨this.1, hub, this.2.2⟩
          · have h1 : wr.heap.size ≤ ad.block := ho2 ad had
            exact ⟨by omega, hub, by omega⟩
        have b8 : Below W.heap.size W w8 := HB.out.drew.trans (X4.out.below (by exact HB.out.size) fun i hi e => by omega)
        have F1 := Lib.hid (X1.out.kept hkT (by show ¬ (_ = _); omega) (by show ¬ (_ = _); omega))
        have F2 := Lib.hid ((X2.out.kept hkT (Nat.le_refl _) (fun _ ad had hs => (hA4 ad had).2.2 hs)).more hkT.size)
        have F3 := Lib.hid (show ∀ ad, A4 = some ad → ad.block ≠ s3 ∧ ad.block < ((w8.setCell ⟨w6.heap.size, 0, none⟩ (.int .i64 (f : Nat))).setCell ⟨w6.heap.size, 1, none⟩ (.slice A4 n c4)).heap.size ∧ ad.block ≠ w6.heap.size from fun ad had => ⟨(hA4 ad had).1, Nat.lt_of_lt_of_le (hA4 ad had).2.1 hkT.size, (hA4 ad had).2.2⟩)
        have F4 := Lib.hid (((HMp.out.after (below_drew wr)).kept X4.out (fun h => ne1 h) (by show ¬ (_ = _); omega)).kept hkT (by show ¬ (_ = _); omega) (by show ¬ (_ = _); omega))
        have hr9 : Rd w8 w8.heap.size LI A n (RL l) := (HRm.out.drew.kept X4.out (Nat.le_refl _) (fun _ ad had hs => by have h1 := HA.out ad had; omega)).more X4.out.size
        have F5 := Lib.hid ((hr9.kept hkT (Nat.le_refl _) (fun _ ad had hs => by have h1 := HA.out ad had; omega)).more hkT.size)
        have F6 := Lib.hid ((HT.out.drew.kept X4.out (by show ¬ (_ = _); omega)).kept hkT (by show ¬ (_ = _); omega))
        have F7 := Lib.hid (show Blk ((w8.setCell ⟨w6.heap.size, 0, none⟩ (.int .i64 (f : Nat))).setCell ⟨w6.heap.size, 1, none⟩ (.slice A4 n c4)) w6.heap.size 28 #[.int .i64 (f : Nat), .slice A4 n c4] from (X5.out.set_ 0 (.int .i64 (f : Nat))).set_ 1 (.slice A4 n c4))
        have F8 := Lib.hid ((HK.out.drew.kept X4.out (by show ¬ (_ = _); omega)).kept hkT (by show ¬ (_ = _); omega))
        have F9 := Lib.hid (b8.trans (hkT.below b8.size fun i hi e => by omega))
        clear hkT hA4 b8 hr9 u0 u1 u2 u3 X1 X2 X3 X4 X5 HA3 HMp HRm HT HY HK HB HDo hy0 hy1 hk1 d0 d1
        go_wp2
        go_roundw
        case rel => exact ⟨k + 1, l4, A4, c4, by omega, by omega, by go_num, F1.out, HS4.out, HL4.out, F2.out, F3.out, F4.out, F5.out, F6.out, F7.out, F8.out, F9.out⟩
        case measure => simp [intOf]; omega
    · have HMp := Lib.hid hmp; have HRm := Lib.hid hrm; have HT := Lib.hid hT; have HY := Lib.hid hY; have HB := Lib.hid hb; have HCp := Lib.hid hcp; have HRd := Lib.hid hrd; have HL3 := Lib.hid hln
      clear hcp hsm hln hrd hA3 hmp hrm hT hY hK hb
      obtain ⟨wx, rfl⟩ : ∃ wx : World, wx = wr := ⟨_, rfl⟩
      by_cases hkm : k < m1
      · have hk6 : ¬ k < 60 := fun h => hgo ⟨hkm, h⟩
        clear hgo
        have hE1 := regrow_call (P := Try.prog) (f := 14) (args := #[.pointer (some ⟨b, 0, none⟩), .agg #[.int .i64 (f : Nat), .slice A n c]]) (w := wx) (v := .bool true) (fun W' hW' => by
          have h := Same_any b s f c l A W' (HMp.out.after hW') (by rw [HLn.out]; exact HRm.out.after hW')
          rw [HLn.out] at h; unfold RM at h; exact h)
        have hE2 := regrow_call (P := Try.prog) (f := 14) (args := #[.pointer (some ⟨b3, 0, none⟩), .agg #[.int .i64 (f : Nat), .slice A3 n c3]]) (w := wx) (v := .bool true) (fun W' hW' => by
          have h := Same_any b3 s3 f c3 l3 A3 W' (HCp.out.after hW') (by rw [HL3.out]; exact HRd.out.after hW')
          rw [HL3.out] at h; unfold RM at h; exact h)
        have hE3 := regrow_call (P := Try.prog) (f := 32) (args := #[.pointer (some ⟨b3, 0, none⟩), .pointer (some ⟨b, 0, none⟩)]) (w := wx) (v := .bool (decide (l3 = l))) (fun W' hW' => equal_any b3 s3 f l3 b s f l W' (HCp.out.after hW') (HMp.out.after hW') rfl)
        have hE4 := regrow_call (P := Try.prog) (f := 28) (args := #[.slice A3 n c3, .slice A n c]) (w := wx) (v := .bool (decide (l3 = l))) (fun W' hW' => by
          have h := same_any A3 n c3 (RL l3) A n c (RL l) W' (HRd.out.after hW') (HRm.out.after hW') (by omega)
          rw [RL_dec] at h
          exact h)
        generalize decide (l3 = l) = r2 at hE3 hE4
        have HE1 := Lib.hid hE1; have HE2 := Lib.hid hE2; have HE3 := Lib.hid hE3; have HE4 := Lib.hid hE4
        have g0 : ∀ d os, (Go.Sort.grow (redrawn wx d) os).cell? ⟨w2.heap.size, 0, none⟩ = some (.int .i64 (f : Nat)) := regrow (p := fun W' => W'.cell? ⟨w2.heap.size, 0, none⟩ = some (.int .i64 (f : Nat))) fun W' hW' => (HT.out.after hW').cell 0
        have g1 : ∀ d os, (Go.Sort.grow (redrawn wx d) os).cell? ⟨w2.heap.size, 1, none⟩ = some (.slice A n c) := regrow (p := fun W' => W'.cell? ⟨w2.heap.size, 1, none⟩ = some (.slice A n c)) fun W' hW' => (HT.out.after hW').cell 1
        have g2 : ∀ d os, (Go.Sort.grow (redrawn wx d) os).cell? ⟨w6.heap.size, 0, none⟩ = some (.int .i64 (f : Nat)) := regrow (p := fun W' => W'.cell? ⟨w6.heap.size, 0, none⟩ = some (.int .i64 (f : Nat))) fun W' hW' => (HY.out.after hW').cell 0
        have g3 : ∀ d os, (Go.Sort.grow (redrawn wx d) os).cell? ⟨w6.heap.size, 1, none⟩ = some (.slice A3 n c3) := regrow (p := fun W' => W'.cell? ⟨w6.heap.size, 1, none⟩ = some (.slice A3 n c3)) fun W' hW' => (HY.out.after hW').cell 1
        clear hE1 hE2 hE3 hE4
        go_wp2
        clear hy0 hy1 hk1
        refine wp_region_quiet_below (by kernel_rfl) (by kernel_rfl) ?_
        repeat (go_big_quiet_step (first | (go_at_call 32; exact HE3.out _ _) | (go_at_call 28; exact HE4.out _ _) | (go_at_call 14; (with_reducible exact HE1.out _ _)) | (go_at_call 14; (with_reducible exact HE2.out _ _))))
        refine wpQuiet_nil ?_
        rintro _ ⟨⟨dq, osq⟩, rfl⟩
        have hbz := below_regrown wx dq osq
        have HZ := Lib.hid (HB.out.trans (hbz.mono HB.out.size))
        clear hbz g0 g1 g2 g3
        generalize Go.Sort.grow (redrawn wx dq) osq = w9 at HZ ⊢
        go_wp2
        go_returns
        exact ⟨by simp, HZ.out⟩
      · clear hgo
        have hE1 := regrow_call (P := Try.prog) (f := 14) (args := #[.pointer (some ⟨b, 0, none⟩), .agg #[.int .i64 (f : Nat), .slice A n c]]) (w := wx) (v := .bool true) (fun W' hW' => by
          have h := Same_any b s f c l A W' (HMp.out.after hW') (by rw [HLn.out]; exact HRm.out.after hW')
          rw [HLn.out] at h; unfold RM at h; exact h)
        have hE2 := regrow_call (P := Try.prog) (f := 14) (args := #[.pointer (some ⟨b3, 0, none⟩), .agg #[.int .i64 (f : Nat), .slice A3 n c3]]) (w := wx) (v := .bool true) (fun W' hW' => by
          have h := Same_any b3 s3 f c3 l3 A3 W' (HCp.out.after hW') (by rw [HL3.out]; exact HRd.out.after hW')
          rw [HL3.out] at h; unfold RM at h; exact h)
        have hE3 := regrow_call (P := Try.prog) (f := 32) (args := #[.pointer (some ⟨b3, 0, none⟩), .pointer (some ⟨b, 0, none⟩)]) (w := wx) (v := .bool (decide (l3 = l))) (fun W' hW' => equal_any b3 s3 f l3 b s f l W' (HCp.out.after hW') (HMp.out.after hW') rfl)
        have hE4 := regrow_call (P := Try.prog) (f := 28) (args := #[.slice A3 n c3, .slice A n c]) (w := wx) (v := .bool (decide (l3 = l))) (fun W' hW' => by
          have h := same_any A3 n c3 (RL l3) A n c (RL l) W' (HRd.out.after hW') (HRm.out.after hW') (by omega)
          rw [RL_dec] at h
          exact h)
        generalize decide (l3 = l) = r2 at hE3 hE4
        have HE1 := Lib.hid hE1; have HE2 := Lib.hid hE2; have HE3 := Lib.hid hE3; have HE4 := Lib.hid hE4
        have g0 : ∀ d os, (Go.Sort.grow (redrawn wx d) os).cell? ⟨w2.heap.size, 0, none⟩ = some (.int .i64 (f : Nat)) := regrow (p := fun W' => W'.cell? ⟨w2.heap.size, 0, none⟩ = some (.int .i64 (f : Nat))) fun W' hW' => (HT.out.after hW').cell 0
        have g1 : ∀ d os, (Go.Sort.grow (redrawn wx d) os).cell? ⟨w2.heap.size, 1, none⟩ = some (.slice A n c) := regrow (p := fun W' => W'.cell? ⟨w2.heap.size, 1, none⟩ = some (.slice A n c)) fun W' hW' => (HT.out.after hW').cell 1
        have g2 : ∀ d os, (Go.Sort.grow (redrawn wx d) os).cell? ⟨w6.heap.size, 0, none⟩ = some (.int .i64 (f : Nat)) := regrow (p := fun W' => W'.cell? ⟨w6.heap.size, 0, none⟩ = some (.int .i64 (f : Nat))) fun W' hW' => (HY.out.after hW').cell 0
        have g3 : ∀ d os, (Go.Sort.grow (redrawn wx d) os).cell? ⟨w6.heap.size, 1, none⟩ = some (.slice A3 n c3) := regrow (p := fun W' => W'.cell? ⟨w6.heap.size, 1, none⟩ = some (.slice A3 n c3)) fun W' hW' => (HY.out.after hW').cell 1
        clear hE1 hE2 hE3 hE4
        go_wp2
        clear hy0 hy1 hk1
        refine wp_region_quiet_below (by kernel_rfl) (by kernel_rfl) ?_
        repeat (go_big_quiet_step (first | (go_at_call 32; exact HE3.out _ _) | (go_at_call 28; exact HE4.out _ _) | (go_at_call 14; (with_reducible exact HE1.out _ _)) | (go_at_call 14; (with_reducible exact HE2.out _ _))))
        refine wpQuiet_nil ?_
        rintro _ ⟨⟨dq, osq⟩, rfl⟩
        have hbz := below_regrown wx dq osq
        have HZ := Lib.hid (HB.out.trans (hbz.mono HB.out.size))
        clear hbz g0 g1 g2 g3
        generalize Go.Sort.grow (redrawn wx dq) osq = w9 at HZ ⊢
        go_wp2
        go_returns
        exact ⟨by simp, HZ.out⟩
end Go.Proofs.Ytbeemkamjachpaa
