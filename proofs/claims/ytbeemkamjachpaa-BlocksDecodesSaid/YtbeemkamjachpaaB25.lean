/- The law's play, by a contract; how a list of operations is opened. -/
import Derived.Test.YtbeemkamjachpaaB23
namespace Go.Proofs.Ytbeemkamjachpaa
open Go.ChangeShapes Go.WideShapes Go.ChangeAt Go.RowKit Go.Deep
set_option maxRecDepth 100000
/-- An operation of the law. -/
structure OV where
  kind : UInt8
  block : Int
def LO : Lay OV := { size := 2, enc := fun x => [b8 x.kind, .int .i64 x.block], pos := by decide, len := fun _ => rfl, one := fun a u hu => by simp at hu; rcases hu with rfl | rfl <;> rfl }
section
variable {H : Type} {enc : TypeId × Value → H} {w : World} {r : Reach} {b0 : Nat} {v : Value} {d : DataW H} {p : List MemPlace}
theorem open_opC {base n : Nat} {spare : Nat → Bool} {held : Bool} {cs : List Value} {y : DataW H × List MemPlace} (hy : DataW.trod enc Try.prog w base spare held n 35 cs = some y) : ∃ x : OV, cs = LO.enc x ∧ (-9223372036854775808 ≤ x.block ∧ x.block ≤ 9223372036854775807) := by
  obtain ⟨xs, n', _, _, hcl, hxl, hf⟩ := DataW.trod_struct Try.underlying35 hy
  rw [show Try.prog.cellsOf 35 = 2 by kernel_rfl] at hcl
  have h0 := hf 0 _ rfl; have h1 := hf 1 _ rfl
  have e5 : Try.prog.cellsOf 5 = 1 := by kernel_rfl
  have e3 : Try.prog.cellsOf 3 = 1 := by kernel_rfl
  match cs, hcl, xs, hxl with
  | [q0, q1], _, [y0, y1], _ =>
    simp at h0 h1
    simp only [e5, e3, List.take_succ_cons, List.take_zero] at h0 h1
    obtain ⟨k, hk, _, wk⟩ := DataW.trod_int Try.underlying5 h0
    obtain ⟨s, hs, _, ws⟩ := DataW.trod_int Try.underlying3 h1
    simp only [List.cons.injEq, and_true] at hk hs
    subst hk; subst hs
    have bk := bounds_u8 wk
    have bs := bounds_i64 ws
    refine ⟨⟨UInt8.ofNat k.toNat, s⟩, ?_, bs⟩
    show _ = [b8 (UInt8.ofNat k.toNat), .int .i64 s]
    simp only [b8]
    rw [show ((UInt8.ofNat k.toNat).toNat : Int) = k by simp; omega]
theorem open_ops (hv : Value.okWide Try.prog w r b0 23 v) (h : DataW.Trod enc Try.prog w 0 (fun _ => true) true 23 v d p) :
    ∃ A n c l, v = .slice A n c ∧ Rd w w.heap.size LO A n l ∧ (∀ x ∈ l, -9223372036854775808 ≤ x.block ∧ x.block ≤ 9223372036854775807) ∧ n ≤ 9223372036854775807 := by
  obtain ⟨A, n, c, rfl⟩ := okWide_slice Try.underlying23 hv
  obtain ⟨l, hr, ho, h1, h2⟩ := open_lay (L := LO) (Ok := fun x : OV => -9223372036854775808 ≤ x.block ∧ x.block ≤ 9223372036854775807) Try.underlying23 (by kernel_rfl) (fun n cs y hy => open_opC hy) h
  exact ⟨A, n, c, l, rfl, hr, ho, Nat.le_trans h1 h2⟩
end
theorem takL_len (f : Nat) (l : List UInt8) : (takL f l).1.length = l.length := by
  unfold takL; split <;> simp
theorem stp_len (f : Nat) (l : List UInt8) (kd : Nat) (x : Int) : (stp f l kd x).length = l.length := by
  unfold stp
  split
  · exact takL_len f l
  · split
    · exact givL_len f l x
    · split <;> rw [List.length_map]
theorem small_set {l : List UInt8} (h : small l) (k : Nat) {y : UInt8} (hy : y.toNat < 4) : small (l.set k y) := by
  intro x hx
  rcases List.mem_or_eq_of_mem_set hx with h' | rfl
  · exact h x h'
  · exact hy
theorem small_nx {l : List UInt8} (_h : small l) (t : List UInt8) (ht : ∀ y ∈ t, y.toNat < 4) : small (l.map (nx t)) := by
  intro x hx
  obtain ⟨y, hy, rfl⟩ := List.mem_map.1 hx
  unfold nx
  rw [List.getD_eq_getElem?_getD]
  cases hg : t[y.toNat]? with
  | none => decide
  | some z => exact ht z (List.mem_of_getElem? hg)
theorem stp_small (f : Nat) (l : List UInt8) (kd : Nat) (x : Int) (h : small l) : small (stp f l kd x) := by
  unfold stp
  split
  · unfold takL; split
    · exact small_set h _ (by decide)
    · exact h
  · split
    · unfold givL
      split
      · exact h
      · split
        · exact small_set h _ (by decide)
        · split
          · exact small_set h _ (by decide)
          · exact h
    · split
      · exact small_nx h _ (by decide)
      · exact small_nx h _ (by decide)
theorem small_zero (n : Nat) : small (List.replicate n 0) := by
  intro x hx
  rw [List.eq_of_mem_replicate hx]; decide
/-- What a play leaves: a map and the reference's map with the same states. -/
def Pl (W w' : World) (f n : Nat) (v : Value) (v2 : Value) : Prop :=
  ∃ (b s : Nat) (l : List UInt8) (A : Option Addr) (c : Nat), v = .pointer (some ⟨b, 0, none⟩) ∧ v2 = RM f A n c ∧ MpAt w' b s f l ∧ small l ∧ l.length = n ∧ Rd w' w'.heap.size LI A l.length (RL l) ∧ (∀ ad, A = some ad → ad.block ≠ s ∧ ad.block < w'.heap.size) ∧ W.heap.size ≤ s
set_option maxHeartbeats 4000000 in
theorem play_any (x y : Nat) (hx : x < 65536) (hy : y < 256) (B : Option Addr) (m cB : Nat) (ops : List OV) (W : World) (hr : Rd W W.heap.size LO B m ops) (ho : ∀ z ∈ ops, -9223372036854775808 ≤ z.block ∧ z.block ≤ 9223372036854775807) (hm : m ≤ 9223372036854775807) :
    Calls Try.prog 16 #[.int .u16 (x : Nat), .int .u8 (y : Nat), .slice B m cB] W fun e w' => ∃ v v2, e = .returned (.tuple #[v, v2, .bool true]) ∧ Pl W w' (x % 1000) (1 + y % 40) v v2 ∧ Below W.heap.size W w' := by
  obtain ⟨f, hf⟩ : ∃ f, f = x % 1000 := ⟨_, rfl⟩
  obtain ⟨n, hn⟩ : ∃ n, n = 1 + y % 40 := ⟨_, rfl⟩
  have hf1 : f < 1000 := by omega
  have hn1 : 1 ≤ n ∧ n ≤ 40 := by omega
  have HBeg := Lib.hid (fun W => begin_any x y hx hy W)
  rw [← hf, ← hn] at HBeg ⊢
  have HR := Lib.hid hr; have HO := Lib.hid ho
  have K0 := Lib.hid (Blk.new W 28 #[.int .i64 0, .slice none 0 0])
  have B0 := Lib.hid ((Below.refl W.heap.size W).alloc (Nat.le_refl _) (.cells #[.int .i64 0, .slice none 0 0] 28))
  clear hf hn hx hy hr ho
  go_enter Try.func16, Try.ntmps16
  go_wp2_with fail
  refine (HBeg.out _).mono ?_
  rintro e w1 ⟨b, s, q, rfl, hmp, hrd, hsq, hs, hb⟩
  have hlt1 := hmp.lt
  have hqlt : q < w1.heap.size := hrd.lt (by omega) _ rfl
  have hb1 := (B0.out.trans (hb.mono (by simp))).alloc (by have := hb.size; simp at this; omega) (.cells #[.int .i64 (f : Nat), .slice (some ⟨q, 0, none⟩) n n] 28)
  have M1 := Lib.hid (hmp.after ((Below.refl _ w1).alloc (Nat.le_refl _) (.cells #[.int .i64 (f : Nat), .slice (some ⟨q, 0, none⟩) n n] 28)))
  have R1 := Lib.hid (hrd.after ((Below.refl _ w1).alloc (Nat.le_refl _) (.cells #[.int .i64 (f : Nat), .slice (some ⟨q, 0, none⟩) n n] 28)))
  have KT := Lib.hid ((K0.out.after hb).alloc (.cells #[.int .i64 (f : Nat), .slice (some ⟨q, 0, none⟩) n n] 28))
  have KM := Lib.hid (Blk.new w1 28 #[.int .i64 (f : Nat), .slice (some ⟨q, 0, none⟩) n n])
  have hsz : (w1.alloc (.cells #[.int .i64 (f : Nat), .slice (some ⟨q, 0, none⟩) n n] 28)).heap.size = w1.heap.size + 1 := by simp
  have B1 := Lib.hid hb1; have HZ := Lib.hid hsz
  have hsW : W.heap.size + 1 ≤ s := by simpa using hs
  clear hmp hrd hb hb1 HBeg K0 B0 hsz hs
  unfold RM
  go_wp2
  generalize w1.alloc (.cells #[.int .i64 (f : Nat), .slice (some ⟨q, 0, none⟩) n n] 28) = w2 at M1 R1 KT KM B1 HZ ⊢
  have hNT : W.heap.size < w1.heap.size := by omega
  go_loopw [11, 12] (fun v11 v12 wr => ∃ (k : Nat) (l : List UInt8) (A : Option Addr) (c : Nat), k ≤ m ∧ k ≤ 60 ∧ v12 = .int .i64 (k : Nat) ∧ v11 = .bool true ∧ MpAt wr b s f l ∧ small l ∧ l.length = n ∧ Rd wr wr.heap.size LI A n (RL l) ∧ (∀ ad, A = some ad → ad.block ≠ s ∧ ad.block < wr.heap.size ∧ ad.block ≠ w1.heap.size ∧ W.heap.size < ad.block) ∧ Blk wr W.heap.size 28 #[.int .i64 0, .slice none 0 0] ∧ Blk wr w1.heap.size 28 #[.int .i64 (f : Nat), .slice A n c] ∧ Below W.heap.size W wr) (fun _ v _ => 60 - (intOf v).toNat)
  case atStart => exact ⟨0, _, _, _, by omega, by omega, rfl, rfl, M1.out, small_zero n, List.length_replicate, R1.out, fun ad had => by cases had; exact ⟨by show q ≠ s; omega, by show q < w2.heap.size; have := HZ.out; omega, by show q ≠ w1.heap.size; omega, by show W.heap.size < q; omega⟩, KT.out, KM.out, B1.out⟩
  case round =>
    obtain ⟨k, l, A, c, hk, hk60, rfl, rfl, hmp, hsm, hln, hrd, hA, hT, hM, hb⟩ := hrel
    clear M1 R1 KT KM B1 HZ
    have c0 : wr.cell? ⟨w1.heap.size, 0, none⟩ = some (.int .i64 (f : Nat)) := hM.cell 0
    have c1 : wr.cell? ⟨w1.heap.size, 1, none⟩ = some (.slice A n c) := hM.cell 1
    have hwm : w1.heap.size < wr.heap.size := hM.lt
    by_cases hgo : k < m ∧ k < 60
    · obtain ⟨hlt, hlt60⟩ := hgo
      obtain ⟨ba, o, z, rfl, -, hz, hcz⟩ := (HR.out.below hb).nth hlt
      have hzb := HO.out z (List.mem_of_getElem? hz)
      have d0 : wr.cell? ⟨ba, o + k * 2, none⟩ = some (.int .u8 (z.kind.toNat : Int)) := hcz 0 _ rfl
      have d1 : wr.cell? ⟨ba, o + k * 2 + 1, none⟩ = some (.int .i64 z.block) := hcz 1 _ rfl
      have hkd : z.kind.toNat < 256 := z.kind.toNat_lt
      generalize z.kind.toNat = kd at d0 hkd
      generalize z.block = zb at d1 hzb
      obtain ⟨r, hr⟩ : ∃ r, r = zb.tmod 100 := ⟨_, rfl⟩
      have hr100 : -100 < r ∧ r < 100 := by
        rw [hr]
        have h1 := Int.tmod_lt_of_pos zb (b := 100) (by decide)
        have h2 := Int.neg_tmod zb 100
        have h3 := Int.tmod_lt_of_pos (-zb) (b := 100) (by decide)
        omega
      have hr' : zb.tmod 100 = r := hr.symm
      have hwr : IntKind.i64.wrap r = r := by rw [IntKind.wrap_i64]; omega
      have hwf : IntKind.i64.wrap ((f : Int) + r) = (f : Int) + r := by rw [IntKind.wrap_i64]; omega
      have ca0 : ∀ o, (wr.alloc o).cell? ⟨w1.heap.size, 0, none⟩ = some (.int .i64 (f : Nat)) := fun o => (hM.alloc o).cell 0
      have ca1 : ∀ o, (wr.alloc o).cell? ⟨w1.heap.size, 1, none⟩ = some (.slice A n c) := fun o => (hM.alloc o).cell 1
      have HMp := Lib.hid hmp; have HSm := Lib.hid hsm; have HLn := Lib.hid hln; have HRd := Lib.hid hrd; have HA := Lib.hid hA; have HT := Lib.hid hT; have HM := Lib.hid hM; have HB := Lib.hid hb
      clear hmp hsm hln hrd hA hT hM hb hz hcz hr
      have hbl := (Below.refl wr.heap.size wr).alloc (Nat.le_refl _) (.cells #[.int .u8 (kd : Nat), .int .i64 ((f : Int) + r)] 35)
      have hdo := do_any b s f c kd l A ((f : Int) + r) (wr.alloc (.cells #[.int .u8 (kd : Nat), .int .i64 ((f : Int) + r)] 35)) (HMp.out.after hbl) (by rw [HLn.out]; exact HRd.out.after hbl) (fun ad had => ⟨(HA.out ad had).1, Nat.lt_of_lt_of_le (HA.out ad had).2.1 hbl.size⟩) HSm.out (by omega) hkd
      rw [HLn.out] at hdo
      have hl2 := stp_len f l kd ((f : Int) + r)
      rw [HLn.out] at hl2
      have hs2 := stp_small f l kd ((f : Int) + r) HSm.out
      generalize stp f l kd ((f : Int) + r) = l2 at hdo hl2 hs2
      unfold RM at hdo
      have HDo := Lib.hid hdo; have HL2 := Lib.hid hl2; have HS2 := Lib.hid hs2
      have hszw : (wr.alloc (.cells #[.int .u8 (kd : Nat), .int .i64 ((f : Int) + r)] 35)).heap.size = wr.heap.size + 1 := by simp
      have HSz := Lib.hid hszw
      have KT1 := Lib.hid (HT.out.alloc (.cells #[.int .u8 (kd : Nat), .int .i64 ((f : Int) + r)] 35))
      have KM1 := Lib.hid (HM.out.alloc (.cells #[.int .u8 (kd : Nat), .int .i64 ((f : Int) + r)] 35))
      have BB1 := Lib.hid (HB.out.alloc HB.out.size (.cells #[.int .u8 (kd : Nat), .int .i64 ((f : Int) + r)] 35))
      clear hdo hl2 hs2 hszw
      go_wp2_with fail
      refine HDo.out.mono ?_
      rintro e w3 ⟨v, rfl, hm3, hnx, hkp⟩
      clear ca0 ca1 c0 c1 d0 d1 HT HM HB HDo HMp HSm HLn
      generalize wr.alloc (.cells #[.int .u8 (kd : Nat), .int .i64 ((f : Int) + r)] 35) = wa at hnx hkp HSz KT1 KM1 BB1
      obtain ⟨A2, c2, rfl, hr2, ho2⟩ := hnx
      rw [HL2.out] at hr2 ⊢
      have t3 := KT1.out.kept hkp (by show ¬ (_ = _); omega)
      have m3 := KM1.out.kept hkp (by show ¬ (_ = _); omega)
      have b3 : Below W.heap.size W w3 := BB1.out.trans (hkp.below BB1.out.size fun i hi e => by omega)
      have hA2 : ∀ ad, A2 = some ad → ad.block ≠ s ∧ ad.block < w3.heap.size ∧ ad.block ≠ w1.heap.size ∧ W.heap.size < ad.block := fun ad had => by
        have hub := hr2.lt (by omega) ad had
        rcases ho2 with rfl | ho2
        · have := HA.out ad had; exact ⟨this.1, hub, this.2.2⟩
        · have h1 := ho2 ad had
          have h2 := HSz.out
          have h3 := KM1.out.lt
          have h4 : w1.heap.size < wr.heap.size := hwm
          exact ⟨by omega, hub, by omega, by omega⟩
      have f0 : w3.cell? ⟨w1.heap.size, 0, none⟩ = some (.int .i64 (f : Nat)) := m3.cell 0
      have f1 : w3.cell? ⟨w1.heap.size, 1, none⟩ = some (.slice A n c) := m3.cell 1
      have z0 := m3.frozen 0; have z1 := m3.frozen 1
      have hkT : Keep (fun i => i = w1.heap.size) w3 ((w3.setCell ⟨w1.heap.size, 0, none⟩ (.int .i64 (f : Nat))).setCell ⟨w1.heap.size, 1, none⟩ (.slice A2 n c2)) := ((Keep.refl (fun i => i = w1.heap.size) w3).setCell (p := ⟨w1.heap.size, 0, none⟩) (fun _ => rfl) _).setCell (p := ⟨w1.heap.size, 1, none⟩) (fun _ => rfl) _
      have F1 := Lib.hid (hm3.kept hkT (by show ¬ (_ = _); omega) (by show ¬ (_ = _); omega))
      have F2 := Lib.hid ((hr2.kept hkT (Nat.le_refl _) (fun _ ad had hs => (hA2 ad had).2.2.1 hs)).more hkT.size)
      have F3 := Lib.hid (t3.kept hkT (by show ¬ (_ = _); omega))
      have F4 := Lib.hid (show Blk ((w3.setCell ⟨w1.heap.size, 0, none⟩ (.int .i64 (f : Nat))).setCell ⟨w1.heap.size, 1, none⟩ (.slice A2 n c2)) w1.heap.size 28 #[.int .i64 (f : Nat), .slice A2 n c2] from (m3.set_ 0 (.int .i64 (f : Nat))).set_ 1 (.slice A2 n c2))
      have F5 := Lib.hid (b3.trans (hkT.below b3.size fun i hi e => by omega))
      have F6 := Lib.hid (show ∀ ad, A2 = some ad → ad.block ≠ s ∧ ad.block < ((w3.setCell ⟨w1.heap.size, 0, none⟩ (.int .i64 (f : Nat))).setCell ⟨w1.heap.size, 1, none⟩ (.slice A2 n c2)).heap.size ∧ ad.block ≠ w1.heap.size ∧ W.heap.size < ad.block from fun ad had => ⟨(hA2 ad had).1, Nat.lt_of_lt_of_le (hA2 ad had).2.1 hkT.size, (hA2 ad had).2.2⟩)
      clear hm3 hkp hr2 ho2 t3 m3 b3 hA2 hkT KT1 KM1 BB1 HA HRd
      unfold RM
      go_wp2
      go_roundw
      case rel => exact ⟨k + 1, l2, A2, c2, by omega, by omega, by go_num, rfl, F1.out, HS2.out, HL2.out, F2.out, F6.out, F3.out, F4.out, F5.out⟩
      case measure => simp [intOf]; omega
    · have HMp := Lib.hid hmp; have HSm := Lib.hid hsm; have HLn := Lib.hid hln; have HRd := Lib.hid hrd; have HA := Lib.hid hA; have HT := Lib.hid hT; have HB := Lib.hid hb
      have e0 : wr.cell? ⟨W.heap.size, 0, none⟩ = some (.int .i64 0) := hT.cell 0
      have e1 : wr.cell? ⟨W.heap.size, 1, none⟩ = some (.slice none 0 0) := hT.cell 1
      have y0 := hT.frozen 0; have y1 := hT.frozen 1
      obtain ⟨_, _, _, hbk80⟩ := hmp.blk
      have hbN0 : b ≠ W.heap.size := hbk80.ne_ hT (by decide)
      clear hmp hsm hln hrd hA hT hM hb hbk80
      obtain ⟨wx, rfl⟩ : ∃ wx : World, wx = wr := ⟨_, rfl⟩
      by_cases hkm : k < m
      · have hk6 : ¬ k < 60 := fun h => hgo ⟨hkm, h⟩
        clear hgo
        go_wp2
        go_region
        go_wp2
        have hkN : Keep (fun i => i = W.heap.size) wx ((wx.setCell ⟨W.heap.size, 0, none⟩ (.int .i64 (f : Nat))).setCell ⟨W.heap.size, 1, none⟩ (.slice A n c)).drew := (((Keep.refl (fun i => i = W.heap.size) wx).setCell (p := ⟨W.heap.size, 0, none⟩) (fun _ => rfl) _).setCell (p := ⟨W.heap.size, 1, none⟩) (fun _ => rfl) _).drew
        have k4 : Blk ((wx.setCell ⟨W.heap.size, 0, none⟩ (.int .i64 (f : Nat))).setCell ⟨W.heap.size, 1, none⟩ (.slice A n c)).drew W.heap.size 28 #[.int .i64 (f : Nat), .slice A n c] := ((HT.out.set_ 0 (.int .i64 (f : Nat))).set_ 1 (.slice A n c)).drew
        clear e0 e1 y0 y1 c0 c1
        generalize ((wx.setCell ⟨W.heap.size, 0, none⟩ (.int .i64 (f : Nat))).setCell ⟨W.heap.size, 1, none⟩ (.slice A n c)).drew = w4 at hkN k4 ⊢
        have r0 := k4.cell 0; have r1 := k4.cell 1
        simp at r0 r1
        refine bodyPost_ret (v := .tuple #[.pointer (some ⟨b, 0, none⟩), .agg #[.int .i64 (f : Nat), .slice A n c], .bool true]) (by simp [results, Try.f16, go_sem, r0, r1]) rfl ?_
        have hbN : b ≠ W.heap.size := hbN0
        refine ⟨_, _, rfl, ⟨b, s, l, A, c, rfl, rfl, HMp.out.kept hkN (by show ¬ (_ = _); omega) (by show ¬ (_ = _); omega), HSm.out, HLn.out, ?_, fun ad had => ⟨(HA.out ad had).1, Nat.lt_of_lt_of_le (HA.out ad had).2.1 hkN.size⟩, by omega⟩, HB.out.trans (hkN.below HB.out.size fun i hi e => by omega)⟩
        rw [HLn.out]
        refine (HRd.out.kept hkN (Nat.le_refl _) fun _ ad had hs => ?_).more hkN.size
        have := (HA.out ad had).2.2.2
        omega
      · clear hgo
        go_wp2
        go_region
        go_wp2
        have hkN : Keep (fun i => i = W.heap.size) wx ((wx.setCell ⟨W.heap.size, 0, none⟩ (.int .i64 (f : Nat))).setCell ⟨W.heap.size, 1, none⟩ (.slice A n c)).drew := (((Keep.refl (fun i => i = W.heap.size) wx).setCell (p := ⟨W.heap.size, 0, none⟩) (fun _ => rfl) _).setCell (p := ⟨W.heap.size, 1, none⟩) (fun _ => rfl) _).drew
        have k4 : Blk ((wx.setCell ⟨W.heap.size, 0, none⟩ (.int .i64 (f : Nat))).setCell ⟨W.heap.size, 1, none⟩ (.slice A n c)).drew W.heap.size 28 #[.int .i64 (f : Nat), .slice A n c] := ((HT.out.set_ 0 (.int .i64 (f : Nat))).set_ 1 (.slice A n c)).drew
        clear e0 e1 y0 y1 c0 c1
        generalize ((wx.setCell ⟨W.heap.size, 0, none⟩ (.int .i64 (f : Nat))).setCell ⟨W.heap.size, 1, none⟩ (.slice A n c)).drew = w4 at hkN k4 ⊢
        have r0 := k4.cell 0; have r1 := k4.cell 1
        simp at r0 r1
        refine bodyPost_ret (v := .tuple #[.pointer (some ⟨b, 0, none⟩), .agg #[.int .i64 (f : Nat), .slice A n c], .bool true]) (by simp [results, Try.f16, go_sem, r0, r1]) rfl ?_
        have hbN : b ≠ W.heap.size := hbN0
        refine ⟨_, _, rfl, ⟨b, s, l, A, c, rfl, rfl, HMp.out.kept hkN (by show ¬ (_ = _); omega) (by show ¬ (_ = _); omega), HSm.out, HLn.out, ?_, fun ad had => ⟨(HA.out ad had).1, Nat.lt_of_lt_of_le (HA.out ad had).2.1 hkN.size⟩, by omega⟩, HB.out.trans (hkN.below HB.out.size fun i hi e => by omega)⟩
        rw [HLn.out]
        refine (HRd.out.kept hkN (Nat.le_refl _) fun _ ad had hs => ?_).more hkN.size
        have := (HA.out ad had).2.2.2
        omega
end Go.Proofs.Ytbeemkamjachpaa
