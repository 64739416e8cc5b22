/- The walk of BlocksPlays. -/
import Derived.Test.YtbeemkamjachpaaB24
import Derived.Test.YtbeemkamjachpaaB25
namespace Go.Proofs.Ytbeemkamjachpaa
open Go.RowKit
set_option maxRecDepth 100000
theorem do_any2 (b s f c kd n : Nat) (l : List UInt8) (A : Option Addr) (x : Int) (W : World) (hm : MpAt W b s f l) (hln : l.length = n) (hr : Rd W W.heap.size LI A n (RL l)) (hA : ∀ ad, A = some ad → ad.block ≠ s ∧ ad.block < W.heap.size) (hs : small l) (hx : x ≤ 9223372036854775807) (hk8 : kd < 256) :
    Calls Try.prog 15 #[.pointer (some ⟨b, 0, none⟩), .agg #[.int .i64 (f : Nat), .slice A n c], .agg #[.int .u8 (kd : Nat), .int .i64 x]] W fun e w' =>
    ∃ A2 c2, e = .returned (.tuple #[.agg #[.int .i64 (f : Nat), .slice A2 n c2], .bool true]) ∧ MpAt w' b s f (stp f l kd x) ∧ Rd w' w'.heap.size LI A2 n (RL (stp f l kd x)) ∧ (A2 = A ∨ ∀ ad, A2 = some ad → W.heap.size ≤ ad.block) ∧ Keep (fun i => i = s) W w' := by
  subst hln
  refine (do_any b s f c kd l A x W hm hr hA hs hx hk8).mono ?_
  rintro e w' ⟨v, rfl, h1, ⟨A2, c2, rfl, h2, h3⟩, h4⟩
  have hl := stp_len f l kd x
  rw [hl] at h2 ⊢
  exact ⟨A2, c2, rfl, h1, h2, h3, h4⟩
/-- The world behind the law's do, the reference's new map laid in block P. -/
structure LF (W w4 : World) (b s f n P T : Nat) (l2 : List UInt8) (A : Option Addr) (c : Nat) (A2 : Option Addr) (c2 : Nat) : Prop where
  mp : MpAt w4 b s f l2
  rd : Rd w4 w4.heap.size LI A2 n (RL l2)
  kT : Blk w4 T 28 #[.int .i64 (f : Nat), .slice A n c]
  kP : Blk w4 P 28 #[.int .i64 (f : Nat), .slice A2 n c2]
  bel : Below W.heap.size W w4
  hA2 : ∀ ad, A2 = some ad → ad.block ≠ s ∧ ad.block < w4.heap.size ∧ ad.block ≠ T
theorem LF.of_alloc {W wr W' w3 : World} {b s f n T c c2 : Nat} {l2 : List UInt8} {A A2 : Option Addr} (hn : 0 < n) (hbW : Below wr.heap.size wr W') (hs : s < T) (hsW : W.heap.size ≤ s) (hA : ∀ ad, A = some ad → ad.block ≠ s ∧ ad.block < wr.heap.size ∧ ad.block ≠ T)
    (hM : Blk wr T 28 #[.int .i64 (f : Nat), .slice A n c]) (hb : Below W.heap.size W wr) (x1 : MpAt w3 b s f l2) (x2 : Rd w3 w3.heap.size LI A2 n (RL l2)) (x3 : A2 = A ∨ ∀ ad, A2 = some ad → W'.heap.size ≤ ad.block) (x4 : Keep (fun i => i = s) W' w3) :
    LF W (w3.alloc (.cells #[.int .i64 (f : Nat), .slice A2 n c2] 28)) b s f n w3.heap.size T l2 A c A2 c2 := by
  have hbl := (Below.refl _ w3).alloc (Nat.le_refl _) (.cells #[.int .i64 (f : Nat), .slice A2 n c2] 28)
  have hT := hM.lt
  have b3 : Below W.heap.size W w3 := (hb.trans (hbW.mono hb.size)).trans (x4.below (Nat.le_trans hb.size hbW.size) fun i hi e => by omega)
  refine ⟨x1.after hbl, x2.after hbl, ((hM.after hbW).kept x4 (by show ¬ (_ = _); omega)).alloc _, Blk.new w3 28 _, b3.alloc b3.size _, fun ad had => ?_⟩
  have hub := x2.lt hn ad had
  have hsz := hbl.size
  have hw := hbW.size
  rcases x3 with rfl | ho2
  · have := hA ad had; exact ⟨this.1, by omega, this.2.2⟩
  · have h1 := ho2 ad had
    exact ⟨by omega, by omega, by omega⟩
theorem LF.of_set {W wr w3 : World} {b s f n T c c2 : Nat} {l2 : List UInt8} {A A2 : Option Addr} (hn : 0 < n) (hbT : b < T) (hs : s < T) (hsW : W.heap.size ≤ s) (hA : ∀ ad, A = some ad → ad.block ≠ s ∧ ad.block < wr.heap.size ∧ ad.block ≠ T)
    (hM : Blk wr T 28 #[.int .i64 (f : Nat), .slice A n c]) (hb : Below W.heap.size W wr) (x1 : MpAt w3 b s f l2) (x2 : Rd w3 w3.heap.size LI A2 n (RL l2)) (x3 : A2 = A ∨ ∀ ad, A2 = some ad → (wr.alloc (.cells #[.int .i64 0, .slice none 0 0] 28)).drew.heap.size ≤ ad.block) (x4 : Keep (fun i => i = s) (wr.alloc (.cells #[.int .i64 0, .slice none 0 0] 28)).drew w3) :
    LF W ((w3.setCell ⟨wr.heap.size, 0, none⟩ (.int .i64 (f : Nat))).setCell ⟨wr.heap.size, 1, none⟩ (.slice A2 n c2)) b s f n wr.heap.size T l2 A c A2 c2 := by
  have hbW : Below wr.heap.size wr (wr.alloc (.cells #[.int .i64 0, .slice none 0 0] 28)).drew := ((Below.refl _ wr).alloc (Nat.le_refl _) _).drew
  have hT := hM.lt
  have hsz : (wr.alloc (.cells #[.int .i64 0, .slice none 0 0] 28)).drew.heap.size = wr.heap.size + 1 := by show (wr.alloc _).heap.size = _; simp
  have b3 : Below W.heap.size W w3 := (hb.trans (hbW.mono hb.size)).trans (x4.below (Nat.le_trans hb.size hbW.size) fun i hi e => by omega)
  have hkP : Keep (fun i => i = wr.heap.size) w3 ((w3.setCell ⟨wr.heap.size, 0, none⟩ (.int .i64 (f : Nat))).setCell ⟨wr.heap.size, 1, none⟩ (.slice A2 n c2)) := ((Keep.refl (fun i => i = wr.heap.size) w3).setCell (p := ⟨wr.heap.size, 0, none⟩) (fun _ => rfl) _).setCell (p := ⟨wr.heap.size, 1, none⟩) (fun _ => rfl) _
  have kp := (Blk.new wr 28 #[.int .i64 0, .slice none 0 0]).drew.kept x4 (by show ¬ (_ = _); omega)
  have hA2 : ∀ ad, A2 = some ad → ad.block ≠ s ∧ ad.block < w3.heap.size ∧ ad.block ≠ T ∧ ad.block ≠ wr.heap.size := fun ad had => by
    have hub := x2.lt hn ad had
    rcases x3 with rfl | ho2
    · have := hA ad had; exact ⟨this.1, hub, this.2.2, by omega⟩
    · have h1 := ho2 ad had
      exact ⟨by omega, hub, by omega, by omega⟩
  refine ⟨x1.kept hkP (by show ¬ (_ = _); omega) (by show ¬ (_ = _); omega), (x2.kept hkP (Nat.le_refl _) (fun _ ad had hs => (hA2 ad had).2.2.2 hs)).more hkP.size, ((hM.after hbW).kept x4 (by show ¬ (_ = _); omega)).kept hkP (by show ¬ (_ = _); omega), (kp.set_ 0 (.int .i64 (f : Nat))).set_ 1 (.slice A2 n c2), b3.trans (hkP.below b3.size fun i hi e => by have := hb.size; omega), fun ad had => ⟨(hA2 ad had).1, Nat.lt_of_lt_of_le (hA2 ad had).2.1 hkP.size, (hA2 ad had).2.2.1⟩⟩
set_option maxHeartbeats 4000000 in
theorem blocksPlays_walk (x y : Nat) (hx : x < 65536) (hy : y < 256) (B : Option Addr) (m cB : Nat) (ops : List OV) (W : World) (hr : Rd W W.heap.size LO B m ops) (ho : ∀ z ∈ ops, -9223372036854775808 ≤ z.block ∧ z.block ≤ 9223372036854775807) (hm : m ≤ 9223372036854775807) :
    Calls Try.prog 3 #[.int .u16 (x : Nat), .int .u8 (y : Nat), .slice B m cB] W fun e w' => e = .returned (.bool true) ∧ Below W.heap.size W w' := by
  obtain ⟨f, hf⟩ : ∃ f, f = x % 1000 := ⟨_, rfl⟩
  obtain ⟨n, hn⟩ : ∃ n, n = 1 + y % 40 := ⟨_, rfl⟩
  have hf1 : f < 1000 := by omega
  have hn1 : 1 ≤ n ∧ n ≤ 40 := by omega
  have HBeg := Lib.hid (fun W => begin_any x y hx hy W)
  rw [← hf, ← hn] at HBeg
  have HR := Lib.hid hr; have HO := Lib.hid ho
  clear hf hn hx hy hr ho
  go_enter Try.func3, Try.ntmps3
  go_wp2_with fail
  refine (known_any W).mono ?_
  rintro e w0 ⟨rfl, hb0⟩
  have B0 := Lib.hid hb0
  clear hb0
  go_wp2_with fail
  refine (HBeg.out w0).mono ?_
  rintro e w1 ⟨b, s, q, rfl, hmp, hrd, hsq, hs, hb⟩
  have hlt1 := hmp.lt
  have hqlt : q < w1.heap.size := hrd.lt (by omega) _ rfl
  have hb1 := ((B0.out.trans (hb.mono B0.out.size))).alloc (Nat.le_trans B0.out.size hb.size) (.cells #[.int .i64 (f : Nat), .slice (some ⟨q, 0, none⟩) n n] 28)
  have M1 := Lib.hid (hmp.after ((Below.refl _ w1).alloc (Nat.le_refl _) (.cells #[.int .i64 (f : Nat), .slice (some ⟨q, 0, none⟩) n n] 28)))
  have R1 := Lib.hid (hrd.after ((Below.refl _ w1).alloc (Nat.le_refl _) (.cells #[.int .i64 (f : Nat), .slice (some ⟨q, 0, none⟩) n n] 28)))
  have KM := Lib.hid (Blk.new w1 28 #[.int .i64 (f : Nat), .slice (some ⟨q, 0, none⟩) n n])
  have hsz : (w1.alloc (.cells #[.int .i64 (f : Nat), .slice (some ⟨q, 0, none⟩) n n] 28)).heap.size = w1.heap.size + 1 := by simp
  have B1 := Lib.hid hb1; have HZ := Lib.hid hsz
  have hsW : W.heap.size ≤ s := Nat.le_trans B0.out.size hs
  have hlr := List.length_replicate (n := n) (a := (0 : UInt8))
  clear hmp hrd hb hb1 HBeg hsz hs B0
  have c0 := KM.out.cell 0; have c1 := KM.out.cell 1
  simp at c0 c1
  unfold RM
  go_wp2_with fail
  generalize w1.alloc (.cells #[.int .i64 (f : Nat), .slice (some ⟨q, 0, none⟩) n n] 28) = w2 at M1 R1 KM B1 HZ ⊢
  have hS1 := Same_any b s f n (List.replicate n 0) (some ⟨q, 0, none⟩) w2 M1.out (by rw [hlr]; exact R1.out)
  rw [hlr] at hS1
  unfold RM at hS1
  refine hS1.mono ?_
  clear hS1
  rintro e w3 ⟨rfl, hb⟩
  have M3 := Lib.hid (M1.out.after hb); have R3 := Lib.hid (R1.out.after hb); have K3 := Lib.hid (KM.out.after hb); have B3 := Lib.hid (B1.out.trans (hb.mono B1.out.size)); have HZ3 : Hid (w1.heap.size + 1 ≤ w3.heap.size) := Lib.hid (by have := hb.size; have := HZ.out; omega)
  have HLR := Lib.hid hlr
  clear hb M1 R1 KM B1 HZ c0 c1 hlr
  go_wp2
  go_loopw [9] (fun v wr => ∃ (k : Nat) (l : List UInt8) (A : Option Addr) (c : Nat), k ≤ m ∧ k ≤ 60 ∧ v = .int .i64 (k : Nat) ∧ MpAt wr b s f l ∧ small l ∧ l.length = n ∧ Rd wr wr.heap.size LI A n (RL l) ∧ (∀ ad, A = some ad → ad.block ≠ s ∧ ad.block < wr.heap.size ∧ ad.block ≠ w1.heap.size) ∧ Blk wr w1.heap.size 28 #[.int .i64 (f : Nat), .slice A n c] ∧ Below W.heap.size W wr) (fun v _ => 60 - (intOf v).toNat)
  case atStart => exact ⟨0, _, _, _, by omega, by omega, rfl, M3.out, small_zero n, HLR.out, R3.out, fun ad had => by cases had; exact ⟨by show q ≠ s; omega, by show q < w3.heap.size; have := HZ3.out; omega, by show q ≠ w1.heap.size; omega⟩, K3.out, B3.out⟩
  case round =>
    obtain ⟨k, l, A, c, hk, hk60, rfl, hmp, hsm, hln, hrd, hA, hM, hb⟩ := hrel
    clear M3 R3 K3 B3 HZ3
    have hwm : w1.heap.size < wr.heap.size := hM.lt
    by_cases hgo : k < m ∧ k < 60
    · obtain ⟨hlt, hlt60⟩ := hgo
      have c0 : wr.cell? ⟨w1.heap.size, 0, none⟩ = some (.int .i64 (f : Nat)) := hM.cell 0
      have c1 : wr.cell? ⟨w1.heap.size, 1, none⟩ = some (.slice A n c) := hM.cell 1
      obtain ⟨ba, o, z, rfl, -, hz, hcz⟩ := (HR.out.below hb).nth hlt
      have hzb := HO.out z (List.mem_of_getElem? hz)
      have d0 : wr.cell? ⟨ba, o + k * 2, none⟩ = some (.int .u8 (z.kind.toNat : Int)) := hcz 0 _ rfl
      have d1 : wr.cell? ⟨ba, o + k * 2 + 1, none⟩ = some (.int .i64 z.block) := hcz 1 _ rfl
      have hkd : z.kind.toNat < 256 := z.kind.toNat_lt
      generalize z.kind.toNat = kd at d0 hkd
      generalize z.block = zb at d1 hzb
      have hdo : ∀ W', Below wr.heap.size wr W' → Calls Try.prog 15 #[.pointer (some ⟨b, 0, none⟩), .agg #[.int .i64 (f : Nat), .slice A n c], .agg #[.int .u8 (kd : Nat), .int .i64 zb]] W' fun e w' =>
          ∃ A2 c2, e = .returned (.tuple #[.agg #[.int .i64 (f : Nat), .slice A2 n c2], .bool true]) ∧ MpAt w' b s f (stp f l kd zb) ∧ Rd w' w'.heap.size LI A2 n (RL (stp f l kd zb)) ∧ (A2 = A ∨ ∀ ad, A2 = some ad → W'.heap.size ≤ ad.block) ∧ Keep (fun i => i = s) W' w' :=
        fun W' h => do_any2 b s f c kd n l A zb W' (hmp.after h) hln (hrd.after h) (fun ad had => ⟨(hA ad had).1, Nat.lt_of_lt_of_le (hA ad had).2.1 h.size⟩) hsm (by omega) hkd
      have hl2 := stp_len f l kd zb
      rw [hln] at hl2
      have hs2 := stp_small f l kd zb hsm
      generalize stp f l kd zb = l2 at hdo hl2 hs2
      have HDo := Lib.hid hdo; have HL2 := Lib.hid hl2; have HS2 := Lib.hid hs2
      have HA := Lib.hid hA; have HM := Lib.hid hM; have HB := Lib.hid hb
      clear hmp hsm hln hrd hA hM hb hz hcz hdo hl2 hs2
      go_wp2
      have q0 : Below wr.heap.size wr wr.drew := (Below.refl _ _).drew
      have q1 : Below wr.heap.size wr (wr.alloc (.cells #[.int .i64 0, .slice none 0 0] 28)).drew := ((Below.refl _ wr).alloc (Nat.le_refl _) _).drew
      have Q0 := Lib.hid q0; have Q1 := Lib.hid q1
      have c0' : (wr.alloc (.cells #[.int .i64 0, .slice none 0 0] 28)).cell? ⟨w1.heap.size, 0, none⟩ = some (.int .i64 (f : Nat)) := (HM.out.alloc _).cell 0
      have c1' : (wr.alloc (.cells #[.int .i64 0, .slice none 0 0] 28)).cell? ⟨w1.heap.size, 1, none⟩ = some (.slice A n c) := (HM.out.alloc _).cell 1
      have d0' : (wr.alloc (.cells #[.int .i64 0, .slice none 0 0] 28)).cell? ⟨ba, o + k * 2, none⟩ = some (.int .u8 (kd : Nat)) := (World.cell?_alloc_lt wr _ _ (block_lt d0)).trans d0
      have d1' : (wr.alloc (.cells #[.int .i64 0, .slice none 0 0] 28)).cell? ⟨ba, o + k * 2 + 1, none⟩ = some (.int .i64 zb) := (World.cell?_alloc_lt wr _ _ (block_lt d1)).trans d1
      clear q0 q1
      go_region_with (first
        | (go_at_call 15; (with_reducible refine (HDo.out _ Q0.out).mono ?_); rintro e w3 ⟨A2, c2, rfl, hm3, hr2, ho2, hkp⟩; have X0 := Q0; have X1 := Lib.hid hm3; have X2 := Lib.hid hr2; have X3 := Lib.hid ho2; have X4 := Lib.hid hkp; clear hm3 hr2 ho2 hkp)
        | (go_at_call 15; (with_reducible refine (HDo.out _ Q1.out).mono ?_); rintro e w3 ⟨A2, c2, rfl, hm3, hr2, ho2, hkp⟩; have XP := (Blk.new wr 28 #[.int .i64 0, .slice none 0 0]).drew.kept hkp (by show ¬ (_ = _); omega); have u0 : w3.cell? ⟨wr.heap.size, 0, none⟩ = some (.int .i64 0) := XP.cell 0; have u1 : w3.cell? ⟨wr.heap.size, 1, none⟩ = some (.slice none 0 0) := XP.cell 1; have u2 := XP.frozen 0; have u3 := XP.frozen 1; have X1 := Lib.hid hm3; have X2 := Lib.hid hr2; have X3 := Lib.hid ho2; have X4 := Lib.hid hkp; clear hm3 hr2 ho2 hkp XP))
      all_goals
        first
          | (have X := Lib.hid (LF.of_alloc (c2 := c2) (by omega) X0.out hlt1.2 hsW HA.out HM.out HB.out X1.out X2.out X3.out X4.out)
             generalize w3.alloc (.cells #[.int .i64 (f : Nat), .slice A2 n c2] 28) = w4 at X ⊢)
          | (have X := Lib.hid (LF.of_set (c2 := c2) (by omega) hlt1.1 hlt1.2 hsW HA.out HM.out HB.out X1.out X2.out X3.out X4.out)
             clear u0 u1 u2 u3
             generalize (w3.setCell ⟨wr.heap.size, 0, none⟩ (.int .i64 (f : Nat))).setCell ⟨wr.heap.size, 1, none⟩ (.slice A2 n c2) = w4 at X ⊢)
        clear X1 X2 X3 X4 HA HM HB HDo c0 c1 d0 d1 c0' c1' d0' d1' Q0 Q1
        have hS2 := Same_any b s f c2 l2 A2 w4 X.out.mp (by rw [HL2.out]; exact X.out.rd)
        rw [HL2.out] at hS2
        unfold RM at hS2
        have HS2x := Lib.hid hS2
        have p0 := X.out.kP.cell 0; have p1 := X.out.kP.cell 1
        simp at p0 p1
        clear hS2
        go_wp2_with fail
        refine HS2x.out.mono ?_
        clear HS2x p0 p1
        rintro e w5 ⟨rfl, hb5⟩
        have k5 := X.out.kT.after hb5
        have p5 := X.out.kP.after hb5
        have p0 := p5.cell 0; have p1 := p5.cell 1
        have f0 : w5.cell? ⟨w1.heap.size, 0, none⟩ = some (.int .i64 (f : Nat)) := k5.cell 0
        have f1 : w5.cell? ⟨w1.heap.size, 1, none⟩ = some (.slice A n c) := k5.cell 1
        have z0 := k5.frozen 0; have z1 := k5.frozen 1
        simp at p0 p1
        have hkT : Keep (fun i => i = w1.heap.size) w5 ((w5.setCell ⟨w1.heap.size, 0, none⟩ (.int .i64 (f : Nat))).setCell ⟨w1.heap.size, 1, none⟩ (.slice A2 n c2)) := ((Keep.refl (fun i => i = w1.heap.size) w5).setCell (p := ⟨w1.heap.size, 0, none⟩) (fun _ => rfl) _).setCell (p := ⟨w1.heap.size, 1, none⟩) (fun _ => rfl) _
        have F1 := Lib.hid ((X.out.mp.after hb5).kept hkT (by show ¬ (_ = _); omega) (by show ¬ (_ = _); omega))
        have F2 := Lib.hid (((X.out.rd.after hb5).kept hkT (Nat.le_refl _) (fun _ ad had hs => (X.out.hA2 ad had).2.2 hs)).more hkT.size)
        have F4 := Lib.hid (show Blk ((w5.setCell ⟨w1.heap.size, 0, none⟩ (.int .i64 (f : Nat))).setCell ⟨w1.heap.size, 1, none⟩ (.slice A2 n c2)) w1.heap.size 28 #[.int .i64 (f : Nat), .slice A2 n c2] from (k5.set_ 0 (.int .i64 (f : Nat))).set_ 1 (.slice A2 n c2))
        have F5 := Lib.hid ((X.out.bel.trans (hb5.mono X.out.bel.size)).trans (hkT.below (Nat.le_trans X.out.bel.size hb5.size) fun i hi e => by omega))
        have F6 := Lib.hid (show ∀ ad, A2 = some ad → ad.block ≠ s ∧ ad.block < ((w5.setCell ⟨w1.heap.size, 0, none⟩ (.int .i64 (f : Nat))).setCell ⟨w1.heap.size, 1, none⟩ (.slice A2 n c2)).heap.size ∧ ad.block ≠ w1.heap.size from fun ad had => ⟨(X.out.hA2 ad had).1, by have h1 := (X.out.hA2 ad had).2.1; have h2 := hkT.size; have h3 := hb5.size; omega, (X.out.hA2 ad had).2.2⟩)
        clear hb5 k5 p5 hkT X
        go_wp2
        go_roundw
        case rel => exact ⟨k + 1, l2, A2, c2, by omega, by omega, by go_num, F1.out, HS2.out, HL2.out, F2.out, F6.out, F4.out, F5.out⟩
        case measure => simp [intOf]; omega
    · have HB := Lib.hid hb
      clear hmp hsm hln hrd hA hM hb
      by_cases hkm : k < m
      · have hk6 : ¬ k < 60 := fun h => hgo ⟨hkm, h⟩
        clear hgo
        go_wp2
        go_returns
        exact ⟨rfl, HB.out⟩
      · clear hgo
        go_wp2
        go_returns
        exact ⟨rfl, HB.out⟩
end Go.Proofs.Ytbeemkamjachpaa
