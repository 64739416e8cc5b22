/- Text, by a contract. -/
import Derived.Test.YtgegkjjknlfkpaaDoorBits
import Derived.Lib.SlBytesConst
namespace Go.Proofs.YtgegkjjknlfkpaaDoor
open Go.RowKit
set_option maxRecDepth 100000
def rwx (i : Nat) : UInt8 := if i % 3 = 0 then 114 else if i % 3 = 1 then 119 else 120
/-- The nine letters, of which the first k are set right. -/
def mixL (m k : Nat) : List UInt8 := (List.range 9).map fun i => if i < k ∧ m / 2 ^ (8 - i) % 2 = 0 then 45 else rwx i
def tailL (m : Nat) : List UInt8 := (if 511 < m then [43] else []) ++ (if m / 512 % 2 = 1 then [115] else []) ++ (if m / 1024 % 2 = 1 then [116] else [])
def textL (m : Nat) : List UInt8 := mixL m 9 ++ tailL m
theorem mixL_len (m k : Nat) : (mixL m k).length = 9 := by simp [mixL]
theorem mixL_more (m k : Nat) (hk : k < 9) : mixL m (k + 1) = if m / 2 ^ (8 - k) % 2 = 0 then (mixL m k).set k 45 else mixL m k := by
  have e : ∀ i, i ≠ k → ((i < k + 1 ∧ m / 2 ^ (8 - i) % 2 = 0) ↔ (i < k ∧ m / 2 ^ (8 - i) % 2 = 0)) := fun i hi => ⟨fun h => ⟨by omega, h.2⟩, fun h => ⟨by omega, h.2⟩⟩
  by_cases h : m / 2 ^ (8 - k) % 2 = 0
  · rw [if_pos h]
    apply List.ext_getElem (by simp [mixL])
    intro i h1 h2
    by_cases hi : i = k
    · subst hi; simp [mixL, h]
    · rw [List.getElem_set_ne (by omega)]
      simp only [mixL, List.getElem_map, List.getElem_range, e i hi]
  · rw [if_neg h]
    apply List.ext_getElem (by simp [mixL])
    intro i h1 h2
    by_cases hi : i = k
    · subst hi; simp [mixL, h]
    · simp only [mixL, List.getElem_map, List.getElem_range, e i hi]
/-- A block of nine bytes with the run-time's mark behind them. -/
def Blk9 (w : World) (g : Nat) (cs : Array Value) : Prop := w.heap[g]? = some (.cells cs 5 (9, 10))
theorem Blk9.lt {w : World} {g : Nat} {cs : Array Value} (h : Blk9 w g cs) : g < w.heap.size := by
  rcases Nat.lt_or_ge g w.heap.size with hlt | hge
  · exact hlt
  · unfold Blk9 at h; rw [Array.getElem?_eq_none hge] at h; cases h
theorem Blk9.cell {w : World} {g : Nat} {cs : Array Value} (h : Blk9 w g cs) (i : Nat) : w.cell? ⟨g, i, none⟩ = cs[i]? := cell_of_row w g i cs 5 (9, 10) h
theorem Blk9.frozen {w : World} {g : Nat} {cs : Array Value} (h : Blk9 w g cs) (i : Nat) (hi : i < 9) : w.frozen? ⟨g, i, none⟩ = false := by
  unfold Blk9 at h
  simp [World.frozen?, h]; omega
theorem Blk9.set_ {w : World} {g : Nat} {cs : Array Value} (h : Blk9 w g cs) (i : Nat) (u : Value) : Blk9 (w.setCell ⟨g, i, none⟩ u) g (cs.setIfInBounds i u) := by
  unfold Blk9 at h ⊢
  simp [World.setCell, Array.getElem?_modify, h]
theorem Blk9.rd {w : World} {g : Nat} {l : List UInt8} (h : Blk9 w g (l.map b8).toArray) (hl : l.length = 9) : Rd w w.heap.size L8 (some ⟨g, 0, none⟩) 9 l := by
  refine ⟨hl, fun _ => ⟨_, rfl, h.lt, fun j u hu => ?_⟩⟩
  have e : l.flatMap L8.enc = l.map b8 := L8_all l
  rw [e] at hu
  have := h.cell j
  unfold Addr.add
  split
  · rename_i h0; subst h0; rw [this]; simpa using hu
  · simp only [Nat.zero_add]; rw [this]; simpa using hu
def lettersL (m k : Nat) : Array Value := ((mixL m k).map b8).toArray
theorem lettersL_0 (m : Nat) : lettersL m 0 = #[.int .u8 114, .int .u8 119, .int .u8 120, .int .u8 114, .int .u8 119, .int .u8 120, .int .u8 114, .int .u8 119, .int .u8 120] := by
  simp [lettersL, mixL, List.range, List.range.loop, rwx, b8]
theorem bit_and (x : Nat) (hx : x ≤ 2047) : bits .and .i64 (x : Int) 1 = ((x % 2 : Nat) : Int) := by
  have := i64_and_nat x 1 (by omega) (by decide)
  rw [show x &&& 1 = x % 2 from Nat.and_two_pow_sub_one_eq_mod x 1] at this
  exact this
theorem and_pow (m i : Nat) : m &&& 2 ^ i = if m / 2 ^ i % 2 = 1 then 2 ^ i else 0 := by
  apply Nat.eq_of_testBit_eq
  intro j
  rw [Nat.testBit_and, Nat.testBit_two_pow]
  by_cases h : m / 2 ^ i % 2 = 1
  · rw [if_pos h, Nat.testBit_two_pow]
    by_cases hj : i = j
    · subst hj; rw [Nat.testBit_eq_decide_div_mod_eq]; simp [h]
    · simp [hj]
  · rw [if_neg h]
    by_cases hj : i = j
    · subst hj; rw [Nat.testBit_eq_decide_div_mod_eq]; simp [h]
    · simp [hj]
set_option maxHeartbeats 1000000 in
theorem text_any (m : Nat) (w : World) (hm : m ≤ 2047) : Calls Tryd.prog 20 #[.int .i64 (m : Nat)] w fun e w' => e = .returned (.tuple #[.string (str (textL m)), .int .i64 0]) ∧ Below w.heap.size w w' := by
  have kc := fun (w : World) (C : Array Value) (n c : Nat) => Lib.run_convert_bytes_const (P := Tryd.prog) w 69 5 C n c Tryd.underlying69 Tryd.underlying5
  go_enter Tryd.func20, Tryd.ntmps20
  go_wp2_with fail
  refine (valid_yes m _ hm).mono ?_
  rintro e w1 ⟨rfl, rfl⟩
  go_wp2
  have hb0 : Below w.heap.size w (w.alloc (.cells #[.int .u8 114, .int .u8 119, .int .u8 120, .int .u8 114, .int .u8 119, .int .u8 120, .int .u8 114, .int .u8 119, .int .u8 120] 5 (9, 10))) := (Below.refl _ _).alloc (Nat.le_refl _) _
  have hB0 : Blk9 (w.alloc (.cells #[.int .u8 114, .int .u8 119, .int .u8 120, .int .u8 114, .int .u8 119, .int .u8 120, .int .u8 114, .int .u8 119, .int .u8 120] 5 (9, 10))) w.heap.size (lettersL m 0) := by
    rw [lettersL_0]; exact heap_alloc_new w _
  have HB0 := Lib.hid (And.intro hb0 hB0)
  clear hb0 hB0 kc
  go_loopw [14] (fun v wr => ∃ k : Nat, k ≤ 9 ∧ v = .int .i64 (k : Nat) ∧ Blk9 wr w.heap.size (lettersL m k) ∧ Below w.heap.size w wr) (fun v _ => 9 - (intOf v).toNat)
  case atStart => exact ⟨0, by omega, rfl, HB0.out.2, HB0.out.1⟩
  case round =>
    obtain ⟨k, hk, rfl, hB, hb⟩ := hrel
    by_cases hlt : k < 9
    · have hfr := hB.frozen k hlt
      obtain ⟨y, hy⟩ : ∃ y : UInt8, wr.cell? ⟨w.heap.size, k, none⟩ = some (.int .u8 (y.toNat : Int)) := by
        have hl := mixL_len m k
        refine ⟨(mixL m k)[k], ?_⟩
        rw [hB.cell k]; simp [lettersL, b8, hl, hlt]; rfl
      obtain ⟨d, hd⟩ : ∃ d : Nat, d = m / 2 ^ (8 - k) := ⟨_, rfl⟩
      have hd7 : d ≤ 2047 := by rw [hd]; exact Nat.le_trans (Nat.div_le_self _ _) hm
      have hand : bits .and .i64 ((m : Int) / 2 ^ (8 - k)) 1 = ((d % 2 : Nat) : Int) := by
        have e : (m : Int) / 2 ^ (8 - k) = ((d : Nat) : Int) := by rw [hd]; push_cast; rfl
        rw [e]; exact bit_and d hd7
      have hmix := mixL_more m k hlt
      rw [← hd] at hmix
      have HMix := Lib.hid hmix; have HB := Lib.hid hB; have HBl := Lib.hid hb; have HD := Lib.hid hd
      clear hmix hB hb hd
      by_cases hbit : d % 2 = 0
      · have e0 : (bits .and .i64 ((m : Int) / 2 ^ (8 - k)) 1 == 0) = true := by rw [hand, hbit]; rfl
        have HE := Lib.hid (show mixL m (k + 1) = (mixL m k).set k 45 by rw [HMix.out, if_pos hbit])
        clear hand hbit
        go_wp2
        go_roundw
        case rel =>
          refine ⟨k + 1, by omega, by go_num, ?_, HBl.out.setCell (Nat.le_refl _) _⟩
          have e : lettersL m (k + 1) = (lettersL m k).setIfInBounds k (.int .u8 45) := by
            unfold lettersL; rw [HE.out, List.map_set]; simp [b8]
          rw [e]; exact HB.out.set_ k _
        case measure => simp [intOf]; omega
      · have e0 : (bits .and .i64 ((m : Int) / 2 ^ (8 - k)) 1 == 0) = false := by rw [hand]; simp; omega
        have HE := Lib.hid (show mixL m (k + 1) = mixL m k by rw [HMix.out, if_neg hbit])
        clear hand hbit
        go_wp2
        go_roundw
        case rel => exact ⟨k + 1, by omega, by go_num, by unfold lettersL; rw [HE.out]; exact HB.out, HBl.out⟩
        case measure => simp [intOf]; omega
    · obtain rfl : k = 9 := by omega
      have hrd := hB.rd (mixL_len m 9)
      have hcv : (convert 69 9 (.slice (some ⟨w.heap.size, 0, none⟩) 9 9)).run Tryd.prog wr = .ok (.string (str (mixL m 9))) wr := run_conv8 Tryd.underlying69 Tryd.underlying5 Tryd.underlying9 hrd
      have HBl := Lib.hid hb
      clear hrd hB hb
      have c1 : ∀ l, str l ++ ⟨#[43]⟩ = str (l ++ [43]) := fun l => str_append l [43]
      have c2 : ∀ l, str l ++ ⟨#[115]⟩ = str (l ++ [115]) := fun l => str_append l [115]
      have c3 : ∀ l, str l ++ ⟨#[116]⟩ = str (l ++ [116]) := fun l => str_append l [116]
      have b1 : bits .and .i64 (m : Int) 512 = ((m &&& 512 : Nat) : Int) := i64_and_nat m 512 (by omega) (by decide)
      have b2 : bits .and .i64 (m : Int) 1024 = ((m &&& 1024 : Nat) : Int) := i64_and_nat m 1024 (by omega) (by decide)
      have q1 := and_pow m 9
      have q2 := and_pow m 10
      have ht : textL m = mixL m 9 ++ tailL m := rfl
      by_cases h1 : 511 < m
      · by_cases h2 : m / 512 % 2 = 1
        · by_cases h3 : m / 1024 % 2 = 1
          · have f1 : decide ((511 : Int) < (m : Int)) = true := by simp; omega
            have f2 : (bits .and .i64 (m : Int) 512 != 0) = true := by rw [b1, q1, if_pos h2]; rfl
            have f3 : (bits .and .i64 (m : Int) 1024 != 0) = true := by rw [b2, q2, if_pos h3]; rfl
            have hT : textL m = mixL m 9 ++ [43] ++ [115] ++ [116] := by rw [ht]; unfold tailL; rw [if_pos h1, if_pos h2, if_pos h3]; simp
            have HT := Lib.hid hT
            clear hT ht b1 b2 q1 q2 h1 h2 h3
            go_wp2
            go_returns
            rw [HT.out]
            exact ⟨rfl, HBl.out⟩
          · have f1 : decide ((511 : Int) < (m : Int)) = true := by simp; omega
            have f2 : (bits .and .i64 (m : Int) 512 != 0) = true := by rw [b1, q1, if_pos h2]; rfl
            have f3 : (bits .and .i64 (m : Int) 1024 != 0) = false := by rw [b2, q2, if_neg h3]; rfl
            have hT : textL m = mixL m 9 ++ [43] ++ [115] := by rw [ht]; unfold tailL; rw [if_pos h1, if_pos h2, if_neg h3]; simp
            have HT := Lib.hid hT
            clear hT ht b1 b2 q1 q2 h1 h2 h3
            go_wp2
            go_returns
            rw [HT.out]
            exact ⟨rfl, HBl.out⟩
        · by_cases h3 : m / 1024 % 2 = 1
          · have f1 : decide ((511 : Int) < (m : Int)) = true := by simp; omega
            have f2 : (bits .and .i64 (m : Int) 512 != 0) = false := by rw [b1, q1, if_neg h2]; rfl
            have f3 : (bits .and .i64 (m : Int) 1024 != 0) = true := by rw [b2, q2, if_pos h3]; rfl
            have hT : textL m = mixL m 9 ++ [43] ++ [116] := by rw [ht]; unfold tailL; rw [if_pos h1, if_neg h2, if_pos h3]; simp
            have HT := Lib.hid hT
            clear hT ht b1 b2 q1 q2 h1 h2 h3
            go_wp2
            go_returns
            rw [HT.out]
            exact ⟨rfl, HBl.out⟩
          · have f1 : decide ((511 : Int) < (m : Int)) = true := by simp; omega
            have f2 : (bits .and .i64 (m : Int) 512 != 0) = false := by rw [b1, q1, if_neg h2]; rfl
            have f3 : (bits .and .i64 (m : Int) 1024 != 0) = false := by rw [b2, q2, if_neg h3]; rfl
            have hT : textL m = mixL m 9 ++ [43] := by rw [ht]; unfold tailL; rw [if_pos h1, if_neg h2, if_neg h3]; simp
            have HT := Lib.hid hT
            clear hT ht b1 b2 q1 q2 h1 h2 h3
            go_wp2
            go_returns
            rw [HT.out]
            exact ⟨rfl, HBl.out⟩
      · by_cases h2 : m / 512 % 2 = 1
        · by_cases h3 : m / 1024 % 2 = 1
          · have f1 : decide ((511 : Int) < (m : Int)) = false := by simp; omega
            have f2 : (bits .and .i64 (m : Int) 512 != 0) = true := by rw [b1, q1, if_pos h2]; rfl
            have f3 : (bits .and .i64 (m : Int) 1024 != 0) = true := by rw [b2, q2, if_pos h3]; rfl
            have hT : textL m = mixL m 9 ++ [115] ++ [116] := by rw [ht]; unfold tailL; rw [if_neg h1, if_pos h2, if_pos h3]; simp
            have HT := Lib.hid hT
            clear hT ht b1 b2 q1 q2 h1 h2 h3
            go_wp2
            go_returns
            rw [HT.out]
            exact ⟨rfl, HBl.out⟩
          · have f1 : decide ((511 : Int) < (m : Int)) = false := by simp; omega
            have f2 : (bits .and .i64 (m : Int) 512 != 0) = true := by rw [b1, q1, if_pos h2]; rfl
            have f3 : (bits .and .i64 (m : Int) 1024 != 0) = false := by rw [b2, q2, if_neg h3]; rfl
            have hT : textL m = mixL m 9 ++ [115] := by rw [ht]; unfold tailL; rw [if_neg h1, if_pos h2, if_neg h3]; simp
            have HT := Lib.hid hT
            clear hT ht b1 b2 q1 q2 h1 h2 h3
            go_wp2
            go_returns
            rw [HT.out]
            exact ⟨rfl, HBl.out⟩
        · by_cases h3 : m / 1024 % 2 = 1
          · have f1 : decide ((511 : Int) < (m : Int)) = false := by simp; omega
            have f2 : (bits .and .i64 (m : Int) 512 != 0) = false := by rw [b1, q1, if_neg h2]; rfl
            have f3 : (bits .and .i64 (m : Int) 1024 != 0) = true := by rw [b2, q2, if_pos h3]; rfl
            have hT : textL m = mixL m 9 ++ [116] := by rw [ht]; unfold tailL; rw [if_neg h1, if_neg h2, if_pos h3]; simp
            have HT := Lib.hid hT
            clear hT ht b1 b2 q1 q2 h1 h2 h3
            go_wp2
            go_returns
            rw [HT.out]
            exact ⟨rfl, HBl.out⟩
          · have f1 : decide ((511 : Int) < (m : Int)) = false := by simp; omega
            have f2 : (bits .and .i64 (m : Int) 512 != 0) = false := by rw [b1, q1, if_neg h2]; rfl
            have f3 : (bits .and .i64 (m : Int) 1024 != 0) = false := by rw [b2, q2, if_neg h3]; rfl
            have hT : textL m = mixL m 9 := by rw [ht]; unfold tailL; rw [if_neg h1, if_neg h2, if_neg h3]; simp
            have HT := Lib.hid hT
            clear hT ht b1 b2 q1 q2 h1 h2 h3
            go_wp2
            go_returns
            rw [HT.out]
            exact ⟨rfl, HBl.out⟩
end Go.Proofs.YtgegkjjknlfkpaaDoor
