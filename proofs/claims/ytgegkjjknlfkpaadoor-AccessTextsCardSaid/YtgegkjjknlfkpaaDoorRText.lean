/- The reference's Text, by a contract. -/
import Derived.Test.YtgegkjjknlfkpaaDoorText
namespace Go.Proofs.YtgegkjjknlfkpaaDoor
open Go.RowKit
set_option maxRecDepth 100000
theorem El8 : Elem Tryd.prog 69 5 L8.size 1 := Elem.of (z := .int .u8 0) Tryd.underlying69 (by kernel_rfl) rfl
/-- The letter at place k. -/
def lett (m k : Nat) : UInt8 := if m / 2 ^ (8 - k) % 2 = 0 then 45 else rwx k
theorem lett_all (m : Nat) : (List.range 9).map (lett m) = mixL m 9 := by
  simp [lett, mixL, List.range, List.range.loop]
theorem lett_more (m k : Nat) : (List.range (k + 1)).map (lett m) = (List.range k).map (lett m) ++ [lett m k] := by
  rw [List.range_succ, List.map_append]; rfl
theorem rwx_at (k : Nat) (h : k < 9) : ([114, 119, 120, 114, 119, 120, 114, 119, 120] : List UInt8).getD k 0 = rwx k := by
  have : ∀ k : Fin 9, ([114, 119, 120, 114, 119, 120, 114, 119, 120] : List UInt8).getD k.val 0 = rwx k.val := by decide
  exact this ⟨k, h⟩
set_option maxHeartbeats 1000000 in
theorem rtext_any (m : Nat) (w : World) (hm : m ≤ 2047) : Calls Tryd.prog 22 #[.int .i64 (m : Nat)] w fun e w' => e = .returned (.string (str (textL m))) ∧ Below w.heap.size w w' := by
  have hle : ∀ k, m / 2 ^ k ≤ 2047 := fun k => Nat.le_trans (Nat.div_le_self _ _) hm
  have HLe := Lib.hid hle; clear hle
  go_enter Tryd.func22, Tryd.ntmps22
  go_wp2
  go_loopw [3, 4] (fun v3 v4 wr => ∃ k : Nat, ∃ A c, k ≤ 9 ∧ v4 = .int .i64 (k : Nat) ∧ v3 = .slice A k c ∧ Own wr w.heap.size 5 L8 (.slice A k c) ((List.range k).map (lett m)) ∧ Below w.heap.size w wr) (fun _ v4 _ => 9 - (intOf v4).toNat)
  case atStart => exact ⟨0, none, 0, by omega, rfl, rfl, Own.nil_, Below.refl _ _⟩
  case round =>
    obtain ⟨k, A, c, hk, rfl, rfl, hown, hb⟩ := hrel
    have hsz := hb.size
    have hlen : ((List.range k).map (lett m)).length = k := by simp
    by_cases hlt : k < 9
    · obtain ⟨d, hd⟩ : ∃ d : Nat, d = m / 2 ^ (8 - k) := ⟨_, rfl⟩
      have hd7 : d ≤ 2047 := by rw [hd]; exact HLe.out _
      have hand : bits .and .i64 ((m : Int) / 2 ^ (8 - k)) 1 = ((d % 2 : Nat) : Int) := by
        have e : (m : Int) / 2 ^ (8 - k) = ((d : Nat) : Int) := by rw [hd]; push_cast; rfl
        rw [e]; exact bit_and d hd7
      have hmore := lett_more m k
      have hle2 : lett m k = if d % 2 = 0 then 45 else rwx k := by rw [hd]; rfl
      have hsz9 : k < (⟨#[114, 119, 120, 114, 119, 120, 114, 119, 120]⟩ : ByteArray).size := hlt
      have hget : (⟨#[114, 119, 120, 114, 119, 120, 114, 119, 120]⟩ : ByteArray)[k]'hsz9 = rwx k := (str_get [114, 119, 120, 114, 119, 120, 114, 119, 120] k hlt).trans (rwx_at k hlt)
      have HMore := Lib.hid hmore; have HLe2 := Lib.hid hle2; have HD := Lib.hid hd; have HLen := Lib.hid hlen
      clear hmore hle2 hd hlen
      generalize (List.range k).map (lett m) = pre at hown HMore HLen
      by_cases hbit : d % 2 = 0
      · have e0 : (bits .and .i64 ((m : Int) / 2 ^ (8 - k)) 1 == 1) = false := by rw [hand, hbit]; rfl
        have HE := Lib.hid (show (List.range (k + 1)).map (lett m) = pre ++ [45] by rw [HMore.out, HLe2.out, if_pos hbit])
        clear hand hbit hget
        have hpl : pre.length ≤ 9 := by have := HLen.out; omega
        go_wp2_with (at_builtin; refine ap_one _ rfl _ _ El8 rfl w.heap.size _ pre rfl (hown.alloc _) ⟨wr.heap.size, 0, none⟩ 1 (45) rfl ?c1 ?c2 ?c3 ?c4 ?_)
        case c1 => exact new_at (by simp [L8, b8])
        case c2 => omega
        case c3 => omega
        case c4 => simp; omega
        intro A' c' w' hown' hg _ _ _
        have hb' := (hown.alloc _).belowGrown (hb.alloc hsz _) (by simp; omega) (Nat.le_refl _) hg
        clear hg hown hb
        have hl2 : pre.length + 1 = k + 1 := by rw [HLen.out]
        rw [hl2] at hown' ⊢
        go_wp2
        go_roundw
        case rel => exact ⟨k + 1, A', c', by omega, by go_num, rfl, by rw [HE.out]; exact hown', hb'⟩
        case measure => simp [intOf]; omega
      · have e0 : (bits .and .i64 ((m : Int) / 2 ^ (8 - k)) 1 == 1) = true := by rw [hand]; simp; omega
        have HE := Lib.hid (show (List.range (k + 1)).map (lett m) = pre ++ [rwx k] by rw [HMore.out, HLe2.out, if_neg hbit])
        clear hand hbit
        have hpl : pre.length ≤ 9 := by have := HLen.out; omega
        go_wp2_with (at_builtin; refine ap_one _ rfl _ _ El8 rfl w.heap.size _ pre rfl (hown.alloc _) ⟨wr.heap.size, 0, none⟩ 1 (rwx k) rfl ?c1 ?c2 ?c3 ?c4 ?_)
        case c1 => exact new_at (by simp [L8, b8])
        case c2 => omega
        case c3 => omega
        case c4 => simp; omega
        intro A' c' w' hown' hg _ _ _
        have hb' := (hown.alloc _).belowGrown (hb.alloc hsz _) (by simp; omega) (Nat.le_refl _) hg
        clear hg hown hb
        have hl2 : pre.length + 1 = k + 1 := by rw [HLen.out]
        rw [hl2] at hown' ⊢
        go_wp2
        go_roundw
        case rel => exact ⟨k + 1, A', c', by omega, by go_num, rfl, by rw [HE.out]; exact hown', hb'⟩
        case measure => simp [intOf]; omega
    · obtain rfl : k = 9 := by omega
      rw [lett_all] at hown hlen
      have hcv : (convert 69 9 (.slice A 9 c)).run Tryd.prog wr = .ok (.string (str (mixL m 9))) wr := run_conv8 Tryd.underlying69 Tryd.underlying5 Tryd.underlying9 hown.rd
      have HBl := Lib.hid hb
      clear hown hb hlen
      have c1 : ∀ l, str l ++ ⟨#[43]⟩ = str (l ++ [43]) := fun l => str_append l [43]
      have c2 : ∀ l, str l ++ ⟨#[115]⟩ = str (l ++ [115]) := fun l => str_append l [115]
      have c3 : ∀ l, str l ++ ⟨#[116]⟩ = str (l ++ [116]) := fun l => str_append l [116]
      have ht : textL m = mixL m 9 ++ tailL m := rfl
      by_cases h1 : 511 < m
      · by_cases h2 : m / 512 % 2 = 1
        · by_cases h3 : m / 1024 % 2 = 1
          · have f1 : decide ((512 : Int) ≤ (m : Int)) = true := by simp; omega
            have f2 : ((m : Int) / 512 % 2 == 1) = true := by simp; omega
            have f3 : ((m : Int) / 1024 % 2 == 1) = true := by simp; omega
            have hT : textL m = mixL m 9 ++ [43] ++ [115] ++ [116] := by rw [ht]; unfold tailL; rw [if_pos h1, if_pos h2, if_pos h3]; simp
            have HT := Lib.hid hT
            clear hT ht h1 h2 h3
            go_wp2
            go_returns
            rw [HT.out]
            exact ⟨rfl, HBl.out⟩
          · have f1 : decide ((512 : Int) ≤ (m : Int)) = true := by simp; omega
            have f2 : ((m : Int) / 512 % 2 == 1) = true := by simp; omega
            have f3 : ((m : Int) / 1024 % 2 == 1) = false := by simp; omega
            have hT : textL m = mixL m 9 ++ [43] ++ [115] := by rw [ht]; unfold tailL; rw [if_pos h1, if_pos h2, if_neg h3]; simp
            have HT := Lib.hid hT
            clear hT ht h1 h2 h3
            go_wp2
            go_returns
            rw [HT.out]
            exact ⟨rfl, HBl.out⟩
        · by_cases h3 : m / 1024 % 2 = 1
          · have f1 : decide ((512 : Int) ≤ (m : Int)) = true := by simp; omega
            have f2 : ((m : Int) / 512 % 2 == 1) = false := by simp; omega
            have f3 : ((m : Int) / 1024 % 2 == 1) = true := by simp; omega
            have hT : textL m = mixL m 9 ++ [43] ++ [116] := by rw [ht]; unfold tailL; rw [if_pos h1, if_neg h2, if_pos h3]; simp
            have HT := Lib.hid hT
            clear hT ht h1 h2 h3
            go_wp2
            go_returns
            rw [HT.out]
            exact ⟨rfl, HBl.out⟩
          · have f1 : decide ((512 : Int) ≤ (m : Int)) = true := by simp; omega
            have f2 : ((m : Int) / 512 % 2 == 1) = false := by simp; omega
            have f3 : ((m : Int) / 1024 % 2 == 1) = false := by simp; omega
            have hT : textL m = mixL m 9 ++ [43] := by rw [ht]; unfold tailL; rw [if_pos h1, if_neg h2, if_neg h3]; simp
            have HT := Lib.hid hT
            clear hT ht h1 h2 h3
            go_wp2
            go_returns
            rw [HT.out]
            exact ⟨rfl, HBl.out⟩
      · by_cases h2 : m / 512 % 2 = 1
        · by_cases h3 : m / 1024 % 2 = 1
          · have f1 : decide ((512 : Int) ≤ (m : Int)) = false := by simp; omega
            have f2 : ((m : Int) / 512 % 2 == 1) = true := by simp; omega
            have f3 : ((m : Int) / 1024 % 2 == 1) = true := by simp; omega
            have hT : textL m = mixL m 9 ++ [115] ++ [116] := by rw [ht]; unfold tailL; rw [if_neg h1, if_pos h2, if_pos h3]; simp
            have HT := Lib.hid hT
            clear hT ht h1 h2 h3
            go_wp2
            go_returns
            rw [HT.out]
            exact ⟨rfl, HBl.out⟩
          · have f1 : decide ((512 : Int) ≤ (m : Int)) = false := by simp; omega
            have f2 : ((m : Int) / 512 % 2 == 1) = true := by simp; omega
            have f3 : ((m : Int) / 1024 % 2 == 1) = false := by simp; omega
            have hT : textL m = mixL m 9 ++ [115] := by rw [ht]; unfold tailL; rw [if_neg h1, if_pos h2, if_neg h3]; simp
            have HT := Lib.hid hT
            clear hT ht h1 h2 h3
            go_wp2
            go_returns
            rw [HT.out]
            exact ⟨rfl, HBl.out⟩
        · by_cases h3 : m / 1024 % 2 = 1
          · have f1 : decide ((512 : Int) ≤ (m : Int)) = false := by simp; omega
            have f2 : ((m : Int) / 512 % 2 == 1) = false := by simp; omega
            have f3 : ((m : Int) / 1024 % 2 == 1) = true := by simp; omega
            have hT : textL m = mixL m 9 ++ [116] := by rw [ht]; unfold tailL; rw [if_neg h1, if_neg h2, if_pos h3]; simp
            have HT := Lib.hid hT
            clear hT ht h1 h2 h3
            go_wp2
            go_returns
            rw [HT.out]
            exact ⟨rfl, HBl.out⟩
          · have f1 : decide ((512 : Int) ≤ (m : Int)) = false := by simp; omega
            have f2 : ((m : Int) / 512 % 2 == 1) = false := by simp; omega
            have f3 : ((m : Int) / 1024 % 2 == 1) = false := by simp; omega
            have hT : textL m = mixL m 9 := by rw [ht]; unfold tailL; rw [if_neg h1, if_neg h2, if_neg h3]; simp
            have HT := Lib.hid hT
            clear hT ht h1 h2 h3
            go_wp2
            go_returns
            rw [HT.out]
            exact ⟨rfl, HBl.out⟩
end Go.Proofs.YtgegkjjknlfkpaaDoor
