/- A nil space, by contracts. -/
import Derived.Test.YtlgnhnjnkhnoiaaKn
namespace Go.Proofs.Ytlgnhnjnkhnoiaa
open Go.RowKit
set_option maxRecDepth 100000
theorem load_nil (a n : Int) (W : World) : Calls Try.prog 15 #[.pointer none, .int .i64 a, .int .i64 n] W fun e w' => e = .returned (.tuple #[.string ⟨#[]⟩, .int .i64 1]) ∧ W = w' := by
  go_enter Try.func15, Try.ntmps15
  go_wp2
  go_returns
  exact ⟨rfl, rfl⟩
theorem word_nil (a : Int) (W : World) : Calls Try.prog 29 #[.pointer none, .int .i64 a] W fun e w' => e = .returned (.tuple #[.int .u32 0, .int .i64 1]) ∧ W = w' := by
  go_enter Try.func29, Try.ntmps29
  go_wp2_with fail
  refine (load_nil a 4 W).mono ?_
  rintro e w' ⟨rfl, rfl⟩
  go_wp2
  go_returns
  exact ⟨rfl, rfl⟩
theorem text_nil (a n : Int) (W : World) : Calls Try.prog 30 #[.pointer none, .int .i64 a, .int .i64 n] W fun e w' => e = .returned (.tuple #[.string ⟨#[]⟩, .int .i64 1]) ∧ W = w' := by
  go_enter Try.func30, Try.ntmps30
  go_wp2
  go_step3
  go_wp2
  rw [Exit.noGoto_ret]
  go_returns
  exact ⟨rfl, rfl⟩
theorem there_nil (p : Int) (W : World) : Calls Try.prog 37 #[.pointer none, .int .i64 p] W fun e w' => e = .returned (.tuple #[.pointer none, .int .i64 1]) ∧ W = w' := by
  go_enter Try.func37, Try.ntmps37
  go_wp2
  go_returns
  exact ⟨rfl, rfl⟩
theorem page_nil (p : Int) (W : World) : Calls Try.prog 25 #[.pointer none, .int .i64 p] W fun e w' => e = .returned (.tuple #[.string ⟨#[]⟩, .int .i64 1]) ∧ W = w' := by
  go_enter Try.func25, Try.ntmps25
  go_wp2_with fail
  refine (there_nil p W).mono ?_
  rintro e w' ⟨rfl, rfl⟩
  go_wp2
  go_returns
  exact ⟨rfl, rfl⟩
theorem store_nil (a : Int) (s : ByteArray) (W : World) : Calls Try.prog 16 #[.pointer none, .int .i64 a, .string s] W fun e w' => e = .returned (.int .i64 1) ∧ W = w' := by
  go_enter Try.func16, Try.ntmps16
  go_wp2
  go_returns
  exact ⟨rfl, rfl⟩
theorem map_nil (p : Int) (s : ByteArray) (W : World) : Calls Try.prog 19 #[.pointer none, .int .i64 p, .string s] W fun e w' => e = .returned (.int .i64 1) ∧ W = w' := by
  go_enter Try.func19, Try.ntmps19
  go_wp2
  go_returns
  exact ⟨rfl, rfl⟩
theorem unmap_nil (p : Int) (W : World) : Calls Try.prog 20 #[.pointer none, .int .i64 p] W fun e w' => e = .returned (.int .i64 1) ∧ W = w' := by
  go_enter Try.func20, Try.ntmps20
  go_wp2_with fail
  refine (there_nil p W).mono ?_
  rintro e w' ⟨rfl, rfl⟩
  go_wp2
  go_returns
  exact ⟨rfl, rfl⟩
theorem has_nil (p : Int) (W : World) : Calls Try.prog 31 #[.pointer none, .int .i64 p] W fun e w' => e = .returned (.bool false) ∧ W = w' := by
  go_enter Try.func31, Try.ntmps31
  go_wp2_with fail
  refine (there_nil p W).mono ?_
  rintro e w' ⟨rfl, rfl⟩
  go_wp2
  go_returns
  exact ⟨rfl, rfl⟩
theorem asked_nil  (W : World) : Calls Try.prog 23 #[.pointer none] W fun e w' => e = .returned (.slice none 0 0) ∧ W = w' := by
  go_enter Try.func23, Try.ntmps23
  go_wp2
  go_returns
  exact ⟨rfl, rfl⟩
theorem changes_nil  (W : World) : Calls Try.prog 21 #[.pointer none] W fun e w' => e = .returned (.slice none 0 0) ∧ W = w' := by
  go_enter Try.func21, Try.ntmps21
  go_wp2
  go_returns
  exact ⟨rfl, rfl⟩
theorem fork_nil  (W : World) : Calls Try.prog 14 #[.pointer none] W fun e w' => e = .returned (.pointer none) ∧ W = w' := by
  go_enter Try.func14, Try.ntmps14
  go_wp2
  go_returns
  exact ⟨rfl, rfl⟩
theorem shared_nil (v : Option Addr) (W : World) : Calls Try.prog 13 #[.pointer none, .pointer v] W fun e w' => e = .returned (.int .i64 0) ∧ W = w' := by
  go_enter Try.func13, Try.ntmps13
  go_wp2
  go_returns
  exact ⟨rfl, rfl⟩
theorem shared_nil2 (a : Addr) (W : World) : Calls Try.prog 13 #[.pointer (some a), .pointer none] W fun e w' => e = .returned (.int .i64 0) ∧ W = w' := by
  go_enter Try.func13, Try.ntmps13
  go_wp2
  go_returns
  exact ⟨rfl, rfl⟩
theorem equal_nil  (W : World) : Calls Try.prog 17 #[.pointer none, .pointer none] W fun e w' => e = .returned (.bool true) ∧ W = w' := by
  go_enter Try.func17, Try.ntmps17
  go_wp2
  go_returns
  exact ⟨rfl, rfl⟩
theorem equal_nil1 (a : Addr) (W : World) : Calls Try.prog 17 #[.pointer none, .pointer (some a)] W fun e w' => e = .returned (.bool false) ∧ W = w' := by
  go_enter Try.func17, Try.ntmps17
  go_wp2
  go_returns
  exact ⟨rfl, rfl⟩
theorem equal_nil2 (a : Addr) (W : World) : Calls Try.prog 17 #[.pointer (some a), .pointer none] W fun e w' => e = .returned (.bool false) ∧ W = w' := by
  go_enter Try.func17, Try.ntmps17
  go_wp2
  go_returns
  exact ⟨rfl, rfl⟩
theorem pages_nil (W : World) : Calls Try.prog 32 #[.pointer none] W fun e w' => e = .returned (.slice none 0 0) ∧ W = w' := by
  go_enter Try.func32, Try.ntmps32
  go_wp2
  go_loop [3, 5] (fun v3 v => v3 = .slice none 0 0 ∧ ∃ k : Nat, k ≤ 64 ∧ v = .int .i64 (k : Nat)) (fun _ v => 64 - (intOf v).toNat)
  case atStart => exact ⟨rfl, 0, by omega, rfl⟩
  case round =>
    obtain ⟨rfl, k, hk, rfl⟩ := hrel
    by_cases hlt : k < 64
    · go_wp2_with fail
      refine (has_nil k W).mono ?_
      rintro e w' ⟨rfl, rfl⟩
      go_wp2
      go_round
      case rel => exact ⟨rfl, k + 1, by omega, by go_num⟩
      case measure => simp [intOf]; omega
    · obtain rfl : k = 64 := by omega
      go_wp2
      go_returns
      exact ⟨rfl, rfl⟩
def le4 (x : Nat) : List UInt8 := [UInt8.ofNat x, UInt8.ofNat (x / 256), UInt8.ofNat (x / 65536), UInt8.ofNat (x / 16777216)]
theorem le4_conv (x : Nat) (W : World) (hx : x < 4294967296) : (convert 23 9 (.slice (some ⟨W.heap.size, 0, none⟩) 4 4)).run Try.prog (W.alloc (.cells #[.int .u8 ((x : Int) % 256), .int .u8 ((x : Int) / 256 % 256), .int .u8 ((x : Int) / 65536 % 256), .int .u8 ((x : Int) / 16777216)] 5)) =
    .ok (.string (str (le4 x))) (W.alloc (.cells #[.int .u8 ((x : Int) % 256), .int .u8 ((x : Int) / 256 % 256), .int .u8 ((x : Int) / 65536 % 256), .int .u8 ((x : Int) / 16777216)] 5)) := by
  refine run_conv8 (l := le4 x) Try.underlying23 Try.underlying5 Try.underlying9 (Own.rd (base := W.heap.size) (e := 5) (L := L8) (n := 4) (c := 4) ?_)
  refine new_own (L := L8) (w := W) (l := le4 x) (Nat.le_refl _) (by simp [le4, maxLen]) ?_
  have e1 : (x : Int) % 256 = ((x % 256 : Nat) : Int) := rfl
  have e2 : (x : Int) / 256 % 256 = ((x / 256 % 256 : Nat) : Int) := rfl
  have e3 : (x : Int) / 65536 % 256 = ((x / 65536 % 256 : Nat) : Int) := rfl
  have e4 : (x : Int) / 16777216 = ((x / 16777216 % 256 : Nat) : Int) := by omega
  rw [e1, e2, e3, e4]
  simp [le4, L8, b8]
theorem setword_nil (a : Int) (x : Nat) (W : World) (hx : x < 4294967296) : Calls Try.prog 18 #[.pointer none, .int .i64 a, .int .u32 (x : Nat)] W fun e w' => e = .returned (.int .i64 1) ∧ Below W.heap.size W w' := by
  have HB := Lib.hid (fun o => (Below.refl W.heap.size W).alloc (Nat.le_refl _) o)
  have hcv := le4_conv x W hx
  have hx' : (x : Int) < 4294967296 := by omega
  clear hx
  go_enter Try.func18, Try.ntmps18
  go_wp2_with fail
  refine (store_nil a _ _).mono ?_
  rintro e w' ⟨rfl, rfl⟩
  go_wp2
  go_returns
  exact ⟨rfl, HB.out _⟩
end Go.Proofs.Ytlgnhnjnkhnoiaa
