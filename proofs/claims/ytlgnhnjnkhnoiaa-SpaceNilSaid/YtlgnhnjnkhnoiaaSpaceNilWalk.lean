/- The law SpaceNil, walked. -/
import Derived.Test.YtlgnhnjnkhnoiaaNil
namespace Go.Proofs.Ytlgnhnjnkhnoiaa
open Go.RowKit
set_option maxRecDepth 100000
set_option maxHeartbeats 2000000 in
theorem spaceNil_walk (k q at_ n : Int) (s : ByteArray) (w : World) :
    Calls Try.prog 8 #[.agg #[.int .u8 k, .int .u8 q, .int .i64 at_, .int .i64 n, .string s]] w fun e w' => e = .returned (.bool true) ∧ Below w.heap.size w w' := by
  have hb0 : Below w.heap.size w (w.alloc (.cells #[.int .u8 k, .int .u8 q, .int .i64 at_, .int .i64 n, .string s] 44)) := (Below.refl _ _).alloc (Nat.le_refl _) _
  have k0 := Blk.new w 44 #[.int .u8 k, .int .u8 q, .int .i64 at_, .int .i64 n, .string s]
  have HB0 := Lib.hid hb0; have K0 := Lib.hid k0
  clear hb0 k0
  go_enter Try.func8, Try.ntmps8
  go_wp2_with fail
  refine (load_nil at_ n _).mono ?_
  rintro e w1 ⟨rfl, rfl⟩
  go_wp2_with fail
  refine (word_nil at_ _).mono ?_
  rintro e w1 ⟨rfl, rfl⟩
  go_wp2_with fail
  refine (text_nil at_ n _).mono ?_
  rintro e w1 ⟨rfl, rfl⟩
  go_wp2_with fail
  refine (page_nil at_ _).mono ?_
  rintro e w1 ⟨rfl, rfl⟩
  generalize w.alloc (.cells #[.int .u8 k, .int .u8 q, .int .i64 at_, .int .i64 n, .string s] 44) = w1 at HB0 K0 ⊢
  go_wp2_with fail
  refine (new_nil w1).mono ?_
  rintro e w2 ⟨rfl, rfl⟩
  have hb2 := HB0.out.alloc HB0.out.size (.cells (spc .nilFunc fun _ => Sl.zero) 87)
  have k2 := K0.out.alloc (.cells (spc .nilFunc fun _ => Sl.zero) 87)
  generalize w1.alloc (.cells (spc .nilFunc fun _ => Sl.zero) 87) = w2 at hb2 k2 ⊢
  generalize w1.heap.size = bx
  have HB2 := Lib.hid hb2; have K2 := Lib.hid k2
  clear hb2 k2 HB0 K0
  go_wp2_with fail
  refine (known_any w2).mono ?_
  rintro e w3 ⟨rfl, hb3⟩
  have HB3 := Lib.hid (HB2.out.trans (hb3.mono HB2.out.size))
  have k3 := K2.out.after hb3
  have K3 := Lib.hid k3
  have d2 : w3.cell? ⟨w.heap.size, 2, none⟩ = some (.int .i64 at_) := k3.cell 2
  have d4 : w3.cell? ⟨w.heap.size, 4, none⟩ = some (.string s) := k3.cell 4
  clear hb3 k3 HB2 K2
  go_wp2_with fail
  refine (store_nil at_ s _).mono ?_
  rintro e w' ⟨rfl, rfl⟩
  go_wp2_with fail
  refine (setword_nil at_ 1 _ (by decide)).mono ?_
  rintro e w4 ⟨rfl, hb4⟩
  have HB4 := Lib.hid (HB3.out.trans (hb4.mono HB3.out.size))
  have k4 := K3.out.after hb4
  have d2 : w4.cell? ⟨w.heap.size, 2, none⟩ = some (.int .i64 at_) := k4.cell 2
  have d4 : w4.cell? ⟨w.heap.size, 4, none⟩ = some (.string s) := k4.cell 4
  clear hb4 k4 HB3 K3
  go_wp2_with fail
  refine (map_nil at_ s _).mono ?_
  rintro e w' ⟨rfl, rfl⟩
  go_wp2_with fail
  refine (unmap_nil at_ _).mono ?_
  rintro e w' ⟨rfl, rfl⟩
  go_wp2_with fail
  refine (has_nil at_ _).mono ?_
  rintro e w' ⟨rfl, rfl⟩
  go_wp2_with fail
  refine (pages_nil _).mono ?_
  rintro e w' ⟨rfl, rfl⟩
  go_wp2_with fail
  refine (asked_nil _).mono ?_
  rintro e w' ⟨rfl, rfl⟩
  go_wp2_with fail
  refine (changes_nil _).mono ?_
  rintro e w' ⟨rfl, rfl⟩
  go_wp2_with fail
  refine (fork_nil _).mono ?_
  rintro e w' ⟨rfl, rfl⟩
  go_wp2_with fail
  refine (shared_nil (some ⟨bx, 0, none⟩) _).mono ?_
  rintro e w' ⟨rfl, rfl⟩
  go_wp2_with fail
  refine (shared_nil2 ⟨bx, 0, none⟩ _).mono ?_
  rintro e w' ⟨rfl, rfl⟩
  go_wp2_with fail
  refine (shared_nil none _).mono ?_
  rintro e w' ⟨rfl, rfl⟩
  go_wp2_with fail
  refine (equal_nil _).mono ?_
  rintro e w' ⟨rfl, rfl⟩
  go_wp2_with fail
  refine (equal_nil1 ⟨bx, 0, none⟩ _).mono ?_
  rintro e w' ⟨rfl, rfl⟩
  go_wp2_with fail
  refine (equal_nil2 ⟨bx, 0, none⟩ _).mono ?_
  rintro e w' ⟨rfl, rfl⟩
  go_wp2
  go_returns
  exact ⟨rfl, HB4.out⟩
end Go.Proofs.Ytlgnhnjnkhnoiaa
