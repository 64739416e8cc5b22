/- Parse of a mode's text, by a contract. -/
import Derived.Test.YtgegkjjknlfkpaaDoorRText
import Derived.Test.YtgegkjjknlfkpaaDoorLits
namespace Go.Proofs.YtgegkjjknlfkpaaDoor
open Go.RowKit
set_option maxRecDepth 100000
section
variable {P : Program} {t k e : TypeId} {W : World} {b : Nat} {es : Array MapEntry} {clock : Nat}
theorem run_checkKey_str (hk : P.underlying k = some .string) (em : Bool) (n : Nat) (x : ByteArray) : (Instr.checkKey em (n + 1) k (.string x)).run P W = .ok () W := by
  rw [Instr.checkKey]
  simp [run_underlying hk, Result.andThen]
theorem run_insert_str (ht : P.underlying t = some (.map k e)) (hk : P.underlying k = some .string) (hb : b = W.heap.size) (x : ByteArray) (v : Value) (hn : Instr.findNow .string (.string x) es.toList 0 = some none) :
    (Instr.mapUpdate t (.map (some b)) (.string x) v).run P (W.alloc (.map es clock)) = .ok () (W.alloc (.map (es.push { key := .string x, val := v, born := clock }) (clock + 1))) := by
  subst hb
  have h0 : (W.alloc (.map es clock)).heap[W.heap.size]? = some (.map es clock) := heap_alloc_new W _
  simp [Instr.mapUpdate, run_underlying ht, MapKept.run_getObj_map h0, run_checkKey_str hk _ 9999, Instr.findKey, run_underlying hk, hn, MapKept.run_setObj_map _ h0, Result.andThen]
  exact setBlock_alloc W _ _
theorem run_lookup_str (ht : P.underlying t = some (.map k e)) (hk : P.underlying k = some .string) (hb : W.heap[b]? = some (.map es clock)) (x : ByteArray) (c : Bool) (i : Nat) (v : Value) (hn : Instr.findNow .string (.string x) es.toList 0 = some (some (i, v))) :
    (Instr.lookup t (.map (some b)) (.string x) c).run P W = .ok (if c then .tuple #[v, .bool true] else v) W := by
  simp [Instr.lookup, run_underlying ht, MapKept.run_getObj_map hb, run_checkKey_str hk _ 9999, Instr.findKey, run_underlying hk, hn, Result.andThen]
end
def E0 : MapEntry := { key := .string ⟨#[]⟩, val := .int .i64 0, born := 0 }
def E1 : MapEntry := { key := .string ⟨#[43, 115]⟩, val := .int .i64 512, born := 1 }
def E2 : MapEntry := { key := .string ⟨#[43, 116]⟩, val := .int .i64 1024, born := 2 }
def E3 : MapEntry := { key := .string ⟨#[43, 115, 116]⟩, val := .int .i64 1536, born := 3 }
def tailB (q : Nat) : ByteArray := if q = 0 then ⟨#[]⟩ else if q = 1 then ⟨#[43, 115]⟩ else if q = 2 then ⟨#[43, 116]⟩ else ⟨#[43, 115, 116]⟩
theorem tail_q (m : Nat) (hm : m ≤ 2047) : str (tailL m) = tailB (m / 512) := by
  have : ∀ m : Fin 2048, tailL m.val = (tailB (m.val / 512)).data.toList := by decide +kernel
  have h := this ⟨m, by omega⟩
  simp only at h
  rw [h, str_of]
theorem look_q (W : World) (b q : Nat) (hq : q < 4) (hb : W.heap[b]? = some (.map #[E0, E1, E2, E3] 4)) :
    (Instr.lookup 70 (.map (some b)) (.string (tailB q)) true).run Tryd.prog W = .ok (.tuple #[.int .i64 ((q * 512 : Nat) : Int), .bool true]) W := by
  rcases (show q = 0 ∨ q = 1 ∨ q = 2 ∨ q = 3 by omega) with rfl | rfl | rfl | rfl
  · exact run_lookup_str Tryd.underlying70 Tryd.underlying9 hb _ true 0 (.int .i64 0) (by kernel_rfl)
  · exact run_lookup_str Tryd.underlying70 Tryd.underlying9 hb _ true 1 (.int .i64 512) (by kernel_rfl)
  · exact run_lookup_str Tryd.underlying70 Tryd.underlying9 hb _ true 2 (.int .i64 1024) (by kernel_rfl)
  · exact run_lookup_str Tryd.underlying70 Tryd.underlying9 hb _ true 3 (.int .i64 1536) (by kernel_rfl)
theorem or_q (m : Nat) (hm : m ≤ 2047) : m % 512 ||| (m / 512 * 512) = m := by
  have : ∀ m : Fin 2048, m.val % 512 ||| (m.val / 512 * 512) = m.val := by decide +kernel
  exact this ⟨m, by omega⟩
theorem half (m k : Nat) (hk : k < 9) : m % 512 / 2 ^ (9 - (k + 1)) = 2 * (m % 512 / 2 ^ (9 - k)) + m / 2 ^ (8 - k) % 2 := by
  rcases (show k = 0 ∨ k = 1 ∨ k = 2 ∨ k = 3 ∨ k = 4 ∨ k = 5 ∨ k = 6 ∨ k = 7 ∨ k = 8 by omega) with rfl | rfl | rfl | rfl | rfl | rfl | rfl | rfl | rfl <;> simp <;> omega
theorem lett_at (m k : Nat) (hk : k < 9) : (textL m).getD k 0 = lett m k := by
  unfold textL
  rw [← lett_all, List.getD_eq_getElem?_getD, List.getElem?_append_left (by simp; omega)]
  simp [hk]
set_option maxHeartbeats 2000000 in
theorem parse_text (m : Nat) (w : World) (hm : m ≤ 2047) : Calls Tryd.prog 21 #[.string (str (textL m))] w fun e w' => e = .returned (.tuple #[.int .i64 (m : Nat), .int .i64 0, .int .i64 0]) ∧ Below w.heap.size w w' := by
  have hlen : (textL m).length = 9 + (tailL m).length := by unfold textL; rw [List.length_append, mixL_len]
  have hext : (str (textL m)).extract 9 (str (textL m)).size = tailB (m / 512) := by
    rw [str_extract, ← tail_q m hm, str_size]
    congr 1
    unfold textL
    rw [List.drop_left' (mixL_len m 9), List.take_of_length_le (by simp [mixL_len])]
  have hgt : ∀ k (h : k < (str (textL m)).size), k < 9 → (str (textL m))[k]'h = lett m k := fun k h h9 => by rw [str_get, lett_at m k h9]
  have hs9 : 9 ≤ (str (textL m)).size := by rw [str_size]; omega
  have hs12 : (str (textL m)).size ≤ 12 := by
    rw [str_size, hlen]; unfold tailL; split <;> split <;> split <;> simp
  generalize str (textL m) = s at hext hgt hs9 hs12
  clear hlen
  have HX := Lib.hid hext; have HG := Lib.hid hgt
  clear hext hgt
  have hmin : min (((s.size : Nat)) : Int) 9 = 9 := by omega
  have e9 : decide (((s.size : Nat) : Int) < 9) = false := by simp; omega
  have hlt : ∀ k, m % 512 / 2 ^ k ≤ 511 := fun k => Nat.le_trans (Nat.div_le_self _ _) (by omega)
  have HLt := Lib.hid hlt; clear hlt
  have hmm := @run_makeMap Tryd.prog
  have i0 : (Instr.mapUpdate 70 (.map (some w.heap.size)) (.string ⟨#[]⟩) (.int .i64 0)).run Tryd.prog (w.alloc (.map #[] 0)) = .ok () (w.alloc (.map #[E0] 1)) := run_insert_str Tryd.underlying70 Tryd.underlying9 rfl _ _ (by kernel_rfl)
  have i1 : (Instr.mapUpdate 70 (.map (some w.heap.size)) (.string ⟨#[43, 115]⟩) (.int .i64 512)).run Tryd.prog (w.alloc (.map #[E0] 1)) = .ok () (w.alloc (.map #[E0, E1] 2)) := run_insert_str Tryd.underlying70 Tryd.underlying9 rfl _ _ (by kernel_rfl)
  have i2 : (Instr.mapUpdate 70 (.map (some w.heap.size)) (.string ⟨#[43, 116]⟩) (.int .i64 1024)).run Tryd.prog (w.alloc (.map #[E0, E1] 2)) = .ok () (w.alloc (.map #[E0, E1, E2] 3)) := run_insert_str Tryd.underlying70 Tryd.underlying9 rfl _ _ (by kernel_rfl)
  have i3 : (Instr.mapUpdate 70 (.map (some w.heap.size)) (.string ⟨#[43, 115, 116]⟩) (.int .i64 1536)).run Tryd.prog (w.alloc (.map #[E0, E1, E2] 3)) = .ok () (w.alloc (.map #[E0, E1, E2, E3] 4)) := run_insert_str Tryd.underlying70 Tryd.underlying9 rfl _ _ (by kernel_rfl)
  have lq := look_q (w.alloc (.map #[E0, E1, E2, E3] 4)) w.heap.size (m / 512) (by omega) (heap_alloc_new w _)
  rw [← HX.out] at lq
  go_enter Tryd.func21, Tryd.ntmps21
  go_wp2
  go_loop [5, 13] (fun v5 v13 => ∃ k : Nat, k ≤ 9 ∧ v13 = .int .i64 (k : Nat) ∧ v5 = .int .i64 ((m % 512 / 2 ^ (9 - k) : Nat) : Int)) (fun _ v13 => 9 - (intOf v13).toNat)
  case atStart => exact ⟨0, by omega, rfl, by rw [show m % 512 / 2 ^ (9 - 0) = 0 from Nat.div_eq_of_lt (by omega)]; rfl⟩
  case round =>
    obtain ⟨k, hk, rfl, rfl⟩ := hrel
    have hd := HLt.out (9 - k)
    by_cases hk9 : k < 9
    · have hks : k < s.size := by omega
      have HH := Lib.hid (half m k hk9)
      have hg0 : s[k]'hks = lett m k := HG.out k hks hk9
      unfold lett rwx at hg0
      generalize m % 512 / 2 ^ (9 - k) = d at hd HH ⊢
      by_cases hb : m / 2 ^ (8 - k) % 2 = 0
      · rw [if_pos hb] at hg0
        have HE := Lib.hid (show m % 512 / 2 ^ (9 - (k + 1)) = 2 * d by rw [HH.out, hb]; rfl)
        clear hb
        rcases (show k % 3 = 0 ∨ k % 3 = 1 ∨ k % 3 = 2 by omega) with h3 | h3 | h3
        all_goals
          have h3' : (k : Int) % 3 = ((k % 3 : Nat) : Int) := rfl
          rw [h3] at h3'
          simp only [Int.cast_ofNat_Int] at h3'
          clear h3
          go_wp2
          go_round
          case rel => exact ⟨k + 1, by omega, by go_num, by rw [HE.out]; go_num⟩
          case measure => simp [intOf]; omega
      · rw [if_neg hb] at hg0
        have HE := Lib.hid (show m % 512 / 2 ^ (9 - (k + 1)) = 2 * d + 1 by rw [HH.out]; omega)
        clear hb
        rcases (show k % 3 = 0 ∨ k % 3 = 1 ∨ k % 3 = 2 by omega) with h3 | h3 | h3
        all_goals
          have h3' : (k : Int) % 3 = ((k % 3 : Nat) : Int) := rfl
          rw [h3] at h3' hg0
          simp only [Int.cast_ofNat_Int] at h3'
          first | rw [if_pos rfl] at hg0 | rw [if_neg (by decide), if_pos rfl] at hg0 | rw [if_neg (by decide), if_neg (by decide)] at hg0
          clear h3
          go_wp2
          go_round
          case rel => exact ⟨k + 1, by omega, by go_num, by rw [HE.out]; go_num⟩
          case measure => simp [intOf]; omega
    · obtain rfl : k = 9 := by omega
      rw [show 9 - 9 = 0 from rfl, Nat.pow_zero, Nat.div_one] at hd ⊢
      have hor := i64_or_nat (m % 512) (m / 512 * 512) (by omega) (by omega)
      rw [or_q m hm] at hor
      generalize hdm : m % 512 = d at hd hor ⊢
      generalize m / 512 * 512 = q5 at hor lq
      clear hdm
      go_wp2
      go_returns
      exact ⟨rfl, (Below.refl _ _).alloc (Nat.le_refl _) _⟩
end Go.Proofs.YtgegkjjknlfkpaaDoor
