/- The reference's has, State, Number, by contracts. -/
import Derived.Test.YtbeemkamjachpaaB14
namespace Go.Proofs.Ytbeemkamjachpaa
open Go.RowKit
set_option maxRecDepth 100000
/-- The reference's states. -/
def RL (l : List UInt8) : List Int := l.map fun x => (x.toNat : Int)
theorem RL_len (l : List UInt8) : (RL l).length = l.length := List.length_map _
theorem RL_get (l : List UInt8) (k : Nat) (x : Int) (hk : k < l.length) (h : (RL l)[k]? = some x) : x = ((l.getD k 0).toNat : Int) := by
  unfold RL at h
  rw [List.getElem?_map, List.getElem?_eq_getElem hk] at h
  rw [List.getD_eq_getElem?_getD, List.getElem?_eq_getElem hk]
  injection h with h
  exact h.symm
theorem RL_set (l : List UInt8) (k : Nat) (x : UInt8) : RL (l.set k x) = (RL l).set k (x.toNat : Int) := by unfold RL; rw [List.map_set]
/-- The value of a map of the reference. -/
def RM (f : Nat) (A : Option Addr) (n c : Nat) : Value := .agg #[.int .i64 (f : Nat), .slice A n c]
theorem rhas_any (f n c : Nat) (A : Option Addr) (x : Int) (W : World) (hx : x ≤ 9223372036854775807) (hf : f ≤ 1073741824) (_hn : n ≤ 65536) : Calls Try.prog 49 #[RM f A n c, .int .i64 x] W fun e w' =>
    e = .returned (.bool (inR f n x)) ∧ Below W.heap.size W w' := by
  unfold RM
  have HB := Lib.hid ((Below.refl W.heap.size W).alloc (Nat.le_refl _) (.cells #[.int .i64 (f : Nat), .slice A n c] 28))
  by_cases h0 : (f : Int) ≤ x
  · have e0 : decide (((f : Nat) : Int) ≤ x) = true := by simp [h0]
    have hsub : x - (f : Nat) ≤ 9223372036854775807 ∧ -9223372036854775808 ≤ x - (f : Nat) := by omega
    have hin : inR f n x = decide (x - (f : Nat) < (n : Nat)) := by
      unfold inR
      by_cases h1 : x < f + n
      · rw [decide_eq_true ⟨h0, h1⟩, decide_eq_true (by omega)]
      · rw [decide_eq_false (fun hh => h1 hh.2), decide_eq_false (by omega)]
    rw [hin]
    clear hin h0
    go_enter Try.func49, Try.ntmps49
    go_wp2
    go_returns
    exact ⟨rfl, HB.out⟩
  · have e0 : decide (((f : Nat) : Int) ≤ x) = false := by simp; omega
    have hin : inR f n x = false := decide_eq_false (fun hh => h0 hh.1)
    rw [hin]
    clear hin h0
    go_enter Try.func49, Try.ntmps49
    go_wp2
    go_returns
    exact ⟨rfl, HB.out⟩
theorem rstate_out (f n c : Nat) (A : Option Addr) (x : Int) (W : World) (hx : x ≤ 9223372036854775807) (hf : f ≤ 1073741824) (hn : n ≤ 65536) (hin : inR f n x = false) : Calls Try.prog 64 #[RM f A n c, .int .i64 x] W fun e w' =>
    e = .returned (.tuple #[.int .i64 0, .int .i64 2]) ∧ Below W.heap.size W w' := by
  have hb0 := (Below.refl W.heap.size W).alloc (Nat.le_refl _) (.cells #[.int .i64 (f : Nat), .slice A n c] 28)
  have H := Lib.hid (rhas_any f n c A x (W.alloc (.cells #[.int .i64 (f : Nat), .slice A n c] 28)) hx hf hn)
  rw [hin] at H
  have HB := Lib.hid hb0
  unfold RM at H ⊢
  clear hin hb0
  go_enter Try.func64, Try.ntmps64
  go_wp2_with fail
  refine H.out.mono ?_
  rintro e w' ⟨rfl, hb⟩
  have HB' := Lib.hid (HB.out.trans (hb.mono (by simp)))
  clear hb H
  go_wp2
  go_returns
  exact ⟨rfl, HB'.out⟩
set_option maxHeartbeats 1000000 in
theorem rstate_in (f c : Nat) (l : List UInt8) (A : Option Addr) (k : Nat) (W : World) (hr : Rd W W.heap.size LI A l.length (RL l)) (hf : f ≤ 1073741824) (hn : l.length ≤ 65536) (hk : k < l.length) : Calls Try.prog 64 #[RM f A l.length c, .int .i64 ((f : Int) + (k : Nat))] W fun e w' =>
    e = .returned (.tuple #[.int .i64 ((l.getD k 0).toNat : Int), .int .i64 0]) ∧ Below W.heap.size W w' := by
  have hb0 := (Below.refl W.heap.size W).alloc (Nat.le_refl _) (.cells #[.int .i64 (f : Nat), .slice A l.length c] 28)
  have H := Lib.hid (rhas_any f l.length c A ((f : Int) + (k : Nat)) (W.alloc (.cells #[.int .i64 (f : Nat), .slice A l.length c] 28)) (by omega) hf hn)
  rw [inR_in hk] at H
  have HB := Lib.hid hb0
  have KB := Lib.hid (Blk.new W 28 #[.int .i64 (f : Nat), .slice A l.length c])
  have HR := Lib.hid hr
  unfold RM at H ⊢
  generalize hq : (l.getD k 0).toNat = q
  have HQ := Lib.hid hq
  clear hb0 hr hq
  go_enter Try.func64, Try.ntmps64
  go_wp2_with fail
  refine H.out.mono ?_
  rintro e w' ⟨rfl, hb⟩
  have hb' := HB.out.trans (hb.mono (by simp))
  have k1 := KB.out.after hb
  obtain ⟨ba, o, x, rfl, -, hx, hc⟩ := (HR.out.below hb').nth hk
  have hxq := RL_get l k x hk hx
  have d0 : w'.cell? ⟨ba, o + k, none⟩ = some (.int .i64 x) := by
    have := hc 0 _ rfl
    simpa [LI] using this
  rw [hxq, HQ.out] at d0
  have c0 : w'.cell? ⟨W.heap.size, 0, none⟩ = some (.int .i64 (f : Nat)) := k1.cell 0
  have c1 : w'.cell? ⟨W.heap.size, 1, none⟩ = some (.slice (some ⟨ba, o, none⟩) l.length c) := k1.cell 1
  have ek : (f : Int) + (k : Nat) - (f : Nat) = (k : Nat) := by omega
  have HB' := Lib.hid hb'
  clear hb hb' H k1 hx hc hxq KB
  go_wp2
  go_returns
  exact ⟨rfl, HB'.out⟩
set_option maxHeartbeats 1000000 in
theorem rnumber_any (f c : Nat) (l : List UInt8) (A : Option Addr) (x : Int) (W : World) (hr : Rd W W.heap.size LI A l.length (RL l)) (hn : l.length ≤ 65536) : Calls Try.prog 39 #[RM f A l.length c, .int .i64 x] W fun e w' =>
    e = .returned (.int .i64 ((inL f l [x] l.length).length : Nat)) ∧ Below W.heap.size W w' := by
  have HB := Lib.hid ((Below.refl W.heap.size W).alloc (Nat.le_refl _) (.cells #[.int .i64 (f : Nat), .slice A l.length c] 28))
  have KB := Lib.hid (Blk.new W 28 #[.int .i64 (f : Nat), .slice A l.length c])
  have HR := Lib.hid (hr.alloc (Nat.le_refl _) (.cells #[.int .i64 (f : Nat), .slice A l.length c] 28))
  unfold RM
  clear hr
  go_enter Try.func39, Try.ntmps39
  go_wp2
  generalize W.alloc (.cells #[.int .i64 (f : Nat), .slice A l.length c] 28) = W1 at HB KB HR ⊢
  have c1 : W1.cell? ⟨W.heap.size, 1, none⟩ = some (.slice A l.length c) := KB.out.cell 1
  go_loopw [5, 6] (fun v i wr => ∃ k : Nat, k ≤ l.length ∧ i = .int .i64 (k : Nat) ∧ v = .int .i64 ((inL f l [x] k).length : Nat) ∧ W1 = wr) (fun _ i _ => l.length - (intOf i).toNat)
  case atStart => exact ⟨0, by omega, rfl, rfl, rfl⟩
  case round =>
    obtain ⟨k, hk, rfl, rfl, rfl⟩ := hrel
    have hst := inL_succ f l [x] k
    have hle := inL_len f l [x] k
    by_cases hlt : k < l.length
    · obtain ⟨ba, o, y, rfl, -, hy, hc⟩ := HR.out.nth hlt
      have hyq := RL_get l k y hlt hy
      have d0 : W1.cell? ⟨ba, o + k, none⟩ = some (.int .i64 y) := by
        have := hc 0 _ rfl
        simpa [LI] using this
      rw [← hyq] at hst
      clear hy hc hyq
      by_cases he : y = x
      · have e0 : (y == x) = true := by simp [he]
        rw [if_pos (by rw [he]; exact List.mem_singleton.2 rfl)] at hst
        have hl : (inL f l [x] (k + 1)).length = (inL f l [x] k).length + 1 := by rw [hst, List.length_append]; rfl
        have HLn := Lib.hid hl
        clear hst he hl
        generalize (inL f l [x] k).length = q at HLn hle ⊢
        go_wp2
        go_roundw
        case rel => exact ⟨k + 1, by omega, by go_num, by rw [HLn.out]; go_num, trivial⟩
        case measure => simp [intOf]; omega
      · have e0 : (y == x) = false := by simp [he]
        rw [if_neg (by simpa using he), List.append_nil] at hst
        have HLn := Lib.hid hst
        clear hst he
        go_wp2
        go_roundw
        case rel => exact ⟨k + 1, by omega, by go_num, by rw [HLn.out], trivial⟩
        case measure => simp [intOf]; omega
    · obtain rfl : k = l.length := by omega
      clear hst
      go_wp2
      go_returns
      exact ⟨rfl, HB.out⟩
end Go.Proofs.Ytbeemkamjachpaa
