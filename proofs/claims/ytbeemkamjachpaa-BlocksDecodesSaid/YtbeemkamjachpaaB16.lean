/- The reference's New and the law's begin, by contracts. -/
import Derived.Test.YtbeemkamjachpaaB15
namespace Go.Proofs.Ytbeemkamjachpaa
open Go.RowKit
set_option maxRecDepth 100000
theorem rmade_zero (n : Nat) : madeCells (Value.int .i64 0).cells n = (List.replicate n (.int .i64 0)).toArray := by
  have e : (Value.int .i64 0).cells = #[.int .i64 0] := rfl
  rw [e]
  unfold madeCells
  apply Array.ext
  · simp
  · intro i h1 h2
    simp [Nat.mod_one]
theorem rmake_any (W : World) (n : Nat) (hn : n ≤ 65536) : (Instr.makeSlice 26 (.int .i64 (n : Nat)) (.int .i64 (n : Nat))).run Try.prog W = .ok (.slice (some ⟨W.heap.size, 0, none⟩) n n) (W.alloc (.cells (List.replicate n (.int .i64 0)).toArray 3)) := by
  obtain ⟨i, hi, hz0, hz1, hz2⟩ := info_parts infoE
  have h := run_makeSlice (P := Try.prog) (w := W) 26 3 i (.int .i64 0) Try.underlying26 hi hz0 .i64 .i64 n n (by omega) (by omega) (by rw [hz1]; omega) (by rw [hz2]; omega) (by omega)
  rw [hz1, Int.toNat_natCast, Nat.mul_one, rmade_zero] at h
  exact h
theorem RL_zero (n : Nat) : RL (List.replicate n 0) = List.replicate n 0 := by unfold RL; rw [List.map_replicate]; rfl
set_option maxHeartbeats 1000000 in
theorem rnew_ok (f n : Nat) (W : World) (hf : f ≤ 1073741824) (h1 : 1 ≤ n) (hn : n ≤ 65536) : Calls Try.prog 30 #[.int .i64 (f : Nat), .int .i64 (n : Nat)] W fun e w' =>
    e = .returned (.tuple #[RM f (some ⟨W.heap.size + 1, 0, none⟩) n n, .int .i64 0]) ∧ Rd w' w'.heap.size LI (some ⟨W.heap.size + 1, 0, none⟩) n (RL (List.replicate n 0)) ∧ Below W.heap.size W w' := by
  have hm := rmake_any (W.alloc (.cells #[.int .i64 0, .slice none 0 0] 28)) n hn
  simp only [World.size_alloc] at hm
  have e0 : decide (((f : Nat) : Int) < 0) = false := by simp
  have e1 : decide (1073741824 < ((f : Nat) : Int)) = false := by simp; omega
  have e2 : decide (((n : Nat) : Int) < 1) = false := by simp; omega
  have e3 : decide (65536 < ((n : Nat) : Int)) = false := by simp; omega
  have hb2 := ((Below.refl W.heap.size W).alloc (Nat.le_refl _) (.cells #[.int .i64 (f : Nat), .slice (some ⟨W.heap.size + 1, 0, none⟩) n n] 28)).alloc (by simp) (.cells (Array.replicate n (.int .i64 0)) 3)
  have k1 := Blk.new (W.alloc (.cells #[.int .i64 (f : Nat), .slice (some ⟨W.heap.size + 1, 0, none⟩) n n] 28)) 3 (Array.replicate n (.int .i64 0))
  simp only [World.size_alloc] at k1
  have hrd : Rd ((W.alloc (.cells #[.int .i64 (f : Nat), .slice (some ⟨W.heap.size + 1, 0, none⟩) n n] 28)).alloc (.cells (Array.replicate n (.int .i64 0)) 3)) (W.heap.size + 2) LI (some ⟨W.heap.size + 1, 0, none⟩) n (RL (List.replicate n 0)) := by
    rw [show Array.replicate n (Value.int .i64 0) = ((RL (List.replicate n 0)).map fun x => Value.int .i64 x).toArray by rw [RL_zero, List.map_replicate]; simp] at k1 ⊢
    have := Rd.ofI (B := W.heap.size + 2) k1 (by omega)
    rw [RL_zero, List.length_replicate] at this
    rw [RL_zero]
    exact this
  have HB := Lib.hid hb2; have HR := Lib.hid hrd
  unfold RM
  clear hf h1 hb2 k1 hrd
  go_enter Try.func30, Try.ntmps30
  go_wp2
  go_returns
  exact ⟨rfl, by simpa using HR.out, HB.out⟩
theorem rnew_bad (f n : Int) (W : World) (h : f < 0 ∨ 1073741824 < f ∨ n < 1 ∨ 65536 < n) : Calls Try.prog 30 #[.int .i64 f, .int .i64 n] W fun e w' =>
    e = .returned (.tuple #[.agg #[.int .i64 0, .slice none 0 0], .int .i64 2]) ∧ Below W.heap.size W w' := by
  have HB := Lib.hid ((Below.refl W.heap.size W).alloc (Nat.le_refl _) (.cells #[.int .i64 0, .slice none 0 0] 28))
  by_cases h0 : f < 0
  · have e0 : decide (f < 0) = true := by simp [h0]
    clear h h0
    go_enter Try.func30, Try.ntmps30
    go_wp2
    go_returns
    exact ⟨rfl, HB.out⟩
  · have e0 : decide (f < 0) = false := by simp; omega
    by_cases h1 : 1073741824 < f
    · have e1 : decide (1073741824 < f) = true := by simp [h1]
      clear h h0 h1
      go_enter Try.func30, Try.ntmps30
      go_wp2
      go_returns
      exact ⟨rfl, HB.out⟩
    · have e1 : decide (1073741824 < f) = false := by simp; omega
      by_cases h2 : n < 1
      · have e2 : decide (n < 1) = true := by simp [h2]
        clear h h0 h1 h2
        go_enter Try.func30, Try.ntmps30
        go_wp2
        go_returns
        exact ⟨rfl, HB.out⟩
      · have e2 : decide (n < 1) = false := by simp; omega
        have e3 : decide (65536 < n) = true := by simp; omega
        clear h h0 h1 h2
        go_enter Try.func30, Try.ntmps30
        go_wp2
        go_returns
        exact ⟨rfl, HB.out⟩
set_option maxHeartbeats 1000000 in
theorem begin_any (x y : Nat) (hx : x < 65536) (hy : y < 256) (W : World) : Calls Try.prog 13 #[.int .u16 (x : Nat), .int .u8 (y : Nat)] W fun e w' =>
    ∃ b s q, e = .returned (.tuple #[.pointer (some ⟨b, 0, none⟩), RM (x % 1000) (some ⟨q, 0, none⟩) (1 + y % 40) (1 + y % 40)]) ∧ MpAt w' b s (x % 1000) (List.replicate (1 + y % 40) 0) ∧
      Rd w' w'.heap.size LI (some ⟨q, 0, none⟩) (1 + y % 40) (RL (List.replicate (1 + y % 40) 0)) ∧ s < q ∧ W.heap.size ≤ s ∧ Below W.heap.size W w' := by
  obtain ⟨f, hf⟩ : ∃ f, f = x % 1000 := ⟨_, rfl⟩
  obtain ⟨n, hn⟩ : ∃ n, n = 1 + y % 40 := ⟨_, rfl⟩
  rw [← hf, ← hn]
  have e1 : ((x : Nat) : Int) % 1000 = (f : Nat) := by omega
  have e2 : 1 + ((y : Nat) : Int) % 40 = (n : Nat) := by omega
  have e1' : ((x : Nat) : Int).tmod 1000 = (f : Nat) := by rw [Int.tmod_eq_emod_of_nonneg (by omega)]; omega
  have e2' : 1 + ((y : Nat) : Int).tmod 40 = (n : Nat) := by rw [Int.tmod_eq_emod_of_nonneg (by omega)]; omega
  have hf1 : f < 1000 := by omega
  have hn1 : 1 ≤ n ∧ n ≤ 40 := by omega
  have hb0 := (Below.refl W.heap.size W).alloc (Nat.le_refl _) (.cells #[.int .i64 0, .slice none 0 0] 28)
  have HB0 := Lib.hid hb0
  have K0 := Lib.hid (Blk.new W 28 #[.int .i64 0, .slice none 0 0])
  clear hf hn hb0
  go_enter Try.func13, Try.ntmps13
  go_wp2_with fail
  refine (new_ok f n _ (by omega) (by omega) (by omega)).mono ?_
  rintro e w1 ⟨rfl, hm, hb⟩
  have M1 := Lib.hid hm; have B1 := Lib.hid hb; have K1 := Lib.hid (K0.out.after hb)
  clear hm hb
  go_wp2_with fail
  refine (rnew_ok f n w1 (by omega) (by omega) (by omega)).mono ?_
  rintro e w2 ⟨rfl, hr, hb⟩
  have M2 := M1.out.after hb
  have k2 := K1.out.after hb
  have hb2 := HB0.out.trans ((B1.out.mono (by simp)).trans (hb.mono (by have := B1.out.size; simp at this; omega)))
  have hs1 := B1.out.size
  have hs2 := hb.size
  simp only [World.size_alloc] at hs1 M2
  have k3 := (Blk.new w2 28 #[.int .i64 (f : Nat), .slice (some ⟨w1.heap.size + 1, 0, none⟩) n n])
  have k2a := k2.alloc (.cells #[.int .i64 (f : Nat), .slice (some ⟨w1.heap.size + 1, 0, none⟩) n n] 28)
  have c0 := k2a.cell 0; have c1 := k2a.cell 1; have z0 := k2a.frozen 0; have z1 := k2a.frozen 1
  have M3 := Lib.hid (M2.after ((Below.refl _ w2).alloc (Nat.le_refl _) (.cells #[.int .i64 (f : Nat), .slice (some ⟨w1.heap.size + 1, 0, none⟩) n n] 28)))
  have R3 := Lib.hid ((hr.alloc (Nat.le_refl _) (.cells #[.int .i64 (f : Nat), .slice (some ⟨w1.heap.size + 1, 0, none⟩) n n] 28)).more (B' := (w2.alloc (.cells #[.int .i64 (f : Nat), .slice (some ⟨w1.heap.size + 1, 0, none⟩) n n] 28)).heap.size) (by simp))
  have B3 := Lib.hid (hb2.alloc hb2.size (.cells #[.int .i64 (f : Nat), .slice (some ⟨w1.heap.size + 1, 0, none⟩) n n] 28))
  have hlt : w1.heap.size + 1 < w2.heap.size := hr.lt (by omega) _ rfl
  have KB := Lib.hid k2a
  clear hr hb k2 hb2 M2 k2a
  unfold RM
  go_wp2
  generalize w2.alloc (.cells #[.int .i64 (f : Nat), .slice (some ⟨w1.heap.size + 1, 0, none⟩) n n] 28) = w3 at k3 c0 c1 z0 z1 M3 R3 B3 KB ⊢
  have d0 := k3.cell 0; have d1 := k3.cell 1
  simp at c0 c1 d0 d1
  clear k3
  go_region
  go_wp2
  have hk : Keep (fun i => i = W.heap.size) w3 ((w3.setCell ⟨W.heap.size, 0, none⟩ (.int .i64 (f : Nat))).setCell ⟨W.heap.size, 1, none⟩ (.slice (some ⟨w1.heap.size + 1, 0, none⟩) n n)).drew :=
    (((Keep.refl (fun i => i = W.heap.size) w3).setCell (p := ⟨W.heap.size, 0, none⟩) (fun _ => rfl) _).setCell (p := ⟨W.heap.size, 1, none⟩) (fun _ => rfl) _).drew
  have k4 : Blk ((w3.setCell ⟨W.heap.size, 0, none⟩ (.int .i64 (f : Nat))).setCell ⟨W.heap.size, 1, none⟩ (.slice (some ⟨w1.heap.size + 1, 0, none⟩) n n)).drew W.heap.size 28 #[.int .i64 (f : Nat), .slice (some ⟨w1.heap.size + 1, 0, none⟩) n n] :=
    ((KB.out.set_ 0 (.int .i64 (f : Nat))).set_ 1 (.slice (some ⟨w1.heap.size + 1, 0, none⟩) n n)).drew
  have HK := Lib.hid hk
  clear hk c0 c1 d0 d1 z0 z1
  generalize ((w3.setCell ⟨W.heap.size, 0, none⟩ (.int .i64 (f : Nat))).setCell ⟨W.heap.size, 1, none⟩ (.slice (some ⟨w1.heap.size + 1, 0, none⟩) n n)).drew = w4 at HK k4 ⊢
  have c0 := k4.cell 0; have c1 := k4.cell 1
  simp at c0 c1
  refine bodyPost_ret (v := .tuple #[.pointer (some ⟨W.heap.size + 1 + 1, 0, none⟩), .agg #[.int .i64 (f : Nat), .slice (some ⟨w1.heap.size + 1, 0, none⟩) n n]]) (by simp [results, Try.f13, go_sem, c0, c1]) rfl ?_
  refine ⟨W.heap.size + 1 + 1, W.heap.size + 1, w1.heap.size + 1, rfl, M3.out.kept HK.out (by show ¬ (_ = _); omega) (by show ¬ (_ = _); omega), (R3.out.kept HK.out (Nat.le_refl _) ?_).more HK.out.size, by omega, by omega, B3.out.trans (HK.out.below B3.out.size fun i hi e => by omega)⟩
  intro _ ad had hs
  cases had
  dsimp only at hs
  omega
end Go.Proofs.Ytbeemkamjachpaa
