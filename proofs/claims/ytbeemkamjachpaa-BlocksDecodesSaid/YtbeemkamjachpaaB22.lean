/- The reference's Take, by contracts. -/
import Derived.Test.YtbeemkamjachpaaB21
import Derived.Deep.RegionWith
namespace Go.Proofs.Ytbeemkamjachpaa
open Go.RowKit
set_option maxRecDepth 100000
/-- What Take does. -/
def takL (f : Nat) (l : List UInt8) : List UInt8 × Int × Nat := match ffree l 0 with
  | some k => (l.set k 2, (f : Int) + (k : Nat), 0)
  | none => (l, 0, 26)
set_option maxHeartbeats 4000000 in
theorem rtake_any (f c : Nat) (l : List UInt8) (A : Option Addr) (W : World) (hr : Rd W W.heap.size LI A l.length (RL l)) (hf : f ≤ 1073741824) (hn : l.length ≤ 65536) : Calls Try.prog 41 #[RM f A l.length c] W fun e w' =>
    ∃ v, e = .returned (.tuple #[v, .int .i64 (takL f l).2.1, .int .i64 ((takL f l).2.2 : Nat)]) ∧ RNext W w' A f (takL f l).1 v ∧ Below W.heap.size W w' := by
  have hb2 := ((Below.refl W.heap.size W).alloc (Nat.le_refl _) (.cells #[.int .i64 (f : Nat), .slice A l.length c] 28)).alloc (by simp) (.cells #[.int .i64 0, .slice none 0 0] 28)
  have k0 := (Blk.new W 28 #[.int .i64 (f : Nat), .slice A l.length c]).alloc (.cells #[.int .i64 0, .slice none 0 0] 28)
  have k1 := Blk.new (W.alloc (.cells #[.int .i64 (f : Nat), .slice A l.length c] 28)) 28 #[.int .i64 0, .slice none 0 0]
  simp only [World.size_alloc] at k1
  have hsz : ((W.alloc (.cells #[.int .i64 (f : Nat), .slice A l.length c] 28)).alloc (.cells #[.int .i64 0, .slice none 0 0] 28)).heap.size = W.heap.size + 2 := by simp
  have hr2 := (((hr.alloc (Nat.le_refl _) (.cells #[.int .i64 (f : Nat), .slice A l.length c] 28)).alloc (by simp) (.cells #[.int .i64 0, .slice none 0 0] 28)))
  have HR := Lib.hid hr; have K0 := Lib.hid k0; have K1 := Lib.hid k1; have B2 := Lib.hid hb2; have R2 := Lib.hid hr2
  unfold RM
  clear hr k0 k1 hb2 hr2
  go_enter Try.func41, Try.ntmps41
  go_wp2
  generalize (W.alloc (.cells #[.int .i64 (f : Nat), .slice A l.length c] 28)).alloc (.cells #[.int .i64 0, .slice none 0 0] 28) = W1 at K0 K1 B2 R2 hsz ⊢
  have c0 : W1.cell? ⟨W.heap.size, 0, none⟩ = some (.int .i64 (f : Nat)) := K0.out.cell 0
  have c1 : W1.cell? ⟨W.heap.size, 1, none⟩ = some (.slice A l.length c) := K0.out.cell 1
  have HZ := Lib.hid hsz
  clear hsz
  go_loopw [5] (fun i wr => ∃ k : Nat, k ≤ l.length ∧ i = .int .i64 (k : Nat) ∧ (∀ j, j < k → l.getD j 0 ≠ 0) ∧ W1 = wr) (fun i _ => l.length - (intOf i).toNat)
  case atStart => exact ⟨0, by omega, rfl, fun j hj => by omega, rfl⟩
  case round =>
    obtain ⟨k, hk, rfl, hall, rfl⟩ := hrel
    by_cases hlt : k < l.length
    · obtain ⟨ba, o, y, rfl, -, hy, hc⟩ := R2.out.nth hlt
      have hyq := RL_get l k y hlt hy
      have d0 : W1.cell? ⟨ba, o + k, none⟩ = some (.int .i64 y) := by
        have := hc 0 _ rfl
        simpa [LI] using this
      clear hy hc
      by_cases hz : l.getD k 0 = 0
      · have hff := ffree_some l 0 k hlt hz hall
        rw [Nat.zero_add] at hff
        have ht : takL f l = (l.set k 2, (f : Int) + (k : Nat), 0) := by unfold takL; rw [hff]
        have e0 : (y == 0) = true := by rw [hyq, hz]; rfl
        have hy0 : y = 0 := by rw [hyq, hz]; rfl
        have hwith := with_any f c l (some ⟨ba, o, none⟩) k 2 W1.drew (R2.out.more (by have := HZ.out; show _ ≤ W1.heap.size; omega)) hf hn hlt
        unfold RM at hwith
        have HW := Lib.hid hwith; have HT := Lib.hid ht
        have p0 : W1.cell? ⟨W.heap.size + 1, 0, none⟩ = some (.int .i64 0) := K1.out.cell 0
        have p1 : W1.cell? ⟨W.heap.size + 1, 1, none⟩ = some (.slice none 0 0) := K1.out.cell 1
        have y0 := K1.out.frozen 0; have y1 := K1.out.frozen 1
        have efk : (f : Int) + (k : Nat) ≤ 9223372036854775807 := by omega
        have hwk : IntKind.i64.wrap ((f : Int) + (k : Nat)) = (f : Int) + (k : Nat) := by rw [IntKind.wrap_i64]; omega
        clear hwith ht hff hall hz hyq
        subst hy0
        go_wp2
        go_region_with (go_at_call 50; refine (HW.out).mono ?_; rintro e w1 ⟨A2, c2, rfl, hown, hb1⟩; have g0 : w1.cell? ⟨W.heap.size, 0, none⟩ = some (.int .i64 (f : Nat)) := (K0.out.drew.after hb1).cell 0; have g1 : w1.cell? ⟨W.heap.size, 1, none⟩ = some (.slice (some ⟨ba, o, none⟩) l.length c) := (K0.out.drew.after hb1).cell 1; have q0 : w1.cell? ⟨W.heap.size + 1, 0, none⟩ = some (.int .i64 0) := (K1.out.drew.after hb1).cell 0; have q1 : w1.cell? ⟨W.heap.size + 1, 1, none⟩ = some (.slice none 0 0) := (K1.out.drew.after hb1).cell 1; have r0 := (K1.out.drew.after hb1).frozen 0; have r1 := (K1.out.drew.after hb1).frozen 1; have HO := Lib.hid hown; have HB1 := Lib.hid hb1; clear hown hb1)
        all_goals
          have hB4 := ((B2.out.drew.trans (HB1.out.mono (by show W.heap.size ≤ W1.heap.size; have := HZ.out; omega))).setCell (p := ⟨W.heap.size + 1, 0, none⟩) (by show W.heap.size ≤ W.heap.size + 1; omega) (.int .i64 (f : Nat))).setCell (p := ⟨W.heap.size + 1, 1, none⟩) (by show W.heap.size ≤ W.heap.size + 1; omega) (.slice A2 l.length c2)
          have hK4 := ((K1.out.drew.after HB1.out).set_ 0 (.int .i64 (f : Nat))).set_ 1 (.slice A2 l.length c2)
          have hkp : Keep (fun i => i = W.heap.size + 1) w1 ((w1.setCell ⟨W.heap.size + 1, 0, none⟩ (.int .i64 (f : Nat))).setCell ⟨W.heap.size + 1, 1, none⟩ (.slice A2 l.length c2)) := ((Keep.refl (fun i => i = W.heap.size + 1) w1).setCell (p := ⟨W.heap.size + 1, 0, none⟩) (fun _ => rfl) _).setCell (p := ⟨W.heap.size + 1, 1, none⟩) (fun _ => rfl) _
          have hS : RNext W ((w1.setCell ⟨W.heap.size + 1, 0, none⟩ (.int .i64 (f : Nat))).setCell ⟨W.heap.size + 1, 1, none⟩ (.slice A2 l.length c2)) (some ⟨ba, o, none⟩) f (l.set k 2) (RM f A2 (l.set k 2).length c2) :=
            RNext.new (by rw [List.length_set]; exact HO.out) (by rw [RL_set]; rfl) hkp (by show W.heap.size + 1 < W1.heap.size; have := HZ.out; omega) (by show W.heap.size ≤ W1.heap.size; have := HZ.out; omega)
          rw [List.length_set] at hS
          have HS := Lib.hid hS; have H4 := Lib.hid hB4
          clear hB4 hkp hS c0 c1 d0 p0 p1 y0 y1 g0 g1 q0 q1 r0 r1
          generalize (w1.setCell ⟨W.heap.size + 1, 0, none⟩ (.int .i64 (f : Nat))).setCell ⟨W.heap.size + 1, 1, none⟩ (.slice A2 l.length c2) = w4 at H4 hK4 HS ⊢
          have r0 := hK4.cell 0; have r1 := hK4.cell 1
          simp at r0 r1
          go_wp2
          refine bodyPost_ret (v := .tuple #[.agg #[.int .i64 (f : Nat), .slice A2 l.length c2], .int .i64 ((f : Int) + (k : Nat)), .int .i64 0]) (by simp [results, Try.f41, go_sem, r0, r1]) rfl ?_
          rw [HT.out]
          exact ⟨_, rfl, HS.out, H4.out⟩
      · have hz' : (l.getD k 0).toNat ≠ 0 := fun h => hz (UInt8.toNat_inj.1 (by simpa using h))
        have e0 : (y == 0) = false := by rw [hyq]; simp only [beq_eq_false_iff_ne, ne_eq]; omega
        have HA := Lib.hid (show ∀ j, j < k + 1 → l.getD j 0 ≠ 0 from fun j hj => by
          by_cases h : j = k
          · subst h; exact hz
          · exact hall j (by omega))
        clear hall hyq hz hz'
        go_wp2
        go_roundw
        case rel => exact ⟨k + 1, by omega, by go_num, HA.out, trivial⟩
        case measure => simp [intOf]; omega
    · obtain rfl : k = l.length := by omega
      have hff := ffree_none l 0 hall
      have ht : takL f l = (l, 0, 26) := by unfold takL; rw [hff]
      have HT := Lib.hid ht
      have e0 : W1.cell? ⟨W.heap.size + 1, 0, none⟩ = some (.int .i64 0) := K1.out.cell 0
      have e1 : W1.cell? ⟨W.heap.size + 1, 1, none⟩ = some (.slice none 0 0) := K1.out.cell 1
      have y0 := K1.out.frozen 0; have y1 := K1.out.frozen 1
      clear hff ht hall
      go_wp2
      have hB4 := (B2.out.setCell (p := ⟨W.heap.size + 1, 0, none⟩) (by show W.heap.size ≤ W.heap.size + 1; omega) (.int .i64 (f : Nat))).setCell (p := ⟨W.heap.size + 1, 1, none⟩) (by show W.heap.size ≤ W.heap.size + 1; omega) (.slice A l.length c)
      have hK4 := (K1.out.set_ 0 (.int .i64 (f : Nat))).set_ 1 (.slice A l.length c)
      clear c0 c1 e0 e1
      generalize (W1.setCell ⟨W.heap.size + 1, 0, none⟩ (.int .i64 (f : Nat))).setCell ⟨W.heap.size + 1, 1, none⟩ (.slice A l.length c) = w4 at hB4 hK4 ⊢
      have r0 := hK4.cell 0; have r1 := hK4.cell 1
      simp at r0 r1
      refine bodyPost_ret (v := .tuple #[.agg #[.int .i64 (f : Nat), .slice A l.length c], .int .i64 0, .int .i64 26]) (by simp [results, Try.f41, go_sem, r0, r1]) rfl ?_
      rw [HT.out]
      exact ⟨_, rfl, RNext.same HR.out hB4, hB4⟩
end Go.Proofs.Ytbeemkamjachpaa
