/- New, fill and the source, by contracts. -/
import Derived.Test.YtlgnhnjnkhnoiaaSpaceM
import Derived.Lib.BufferWrite
namespace Go.Proofs.Ytlgnhnjnkhnoiaa
open Go.RowKit
set_option maxRecDepth 100000
def Z64 : Array Value := frc (List.replicate 64 0)
def ZSp : Array Value := spc .nilFunc fun _ => Sl.zero
theorem z92 (w : World) : (zeroValue 92).run Try.prog w = .ok (.agg Z64) w := by kernel_rfl
theorem z87 (w : World) : (zeroValue 87).run Try.prog w = .ok (.agg ZSp) w := by kernel_rfl
theorem setRow_alloc (W : World) (cs cs' : Array Value) (t : TypeId) : (W.alloc (.cells cs t)).setRow W.heap.size cs' = W.alloc (.cells cs' t) := by
  have e : ∀ F : Obj → Obj, (W.heap.push (.cells cs t)).modify W.heap.size F = W.heap.push (F (.cells cs t)) := fun F => by
    apply Array.ext_getElem?
    intro i
    rw [Array.getElem?_modify, Array.getElem?_push, Array.getElem?_push]
    by_cases h : W.heap.size = i
    · subst h; simp
    · rw [if_neg h]
      simp [show ¬ i = W.heap.size from fun e => h e.symm]
  show ({ W with heap := (W.heap.push (.cells cs t)).modify W.heap.size _ } : World) = { W with heap := W.heap.push (.cells cs' t) }
  rw [e]
theorem run_copy_str {P : Program} (w : World) (dT sT ty elem : TypeId) (g n dCap : Nat) (s : ByteArray) (cur : Array Value) (t : TypeId)
    (hu : P.underlying dT = some (.slice elem)) (hs : (P.info? elem).map (·.size) = some 1) (hg : w.heap[g]? = some (.cells cur t (0, 0))) (hfit : n ≤ cur.size) :
    (Builtin.copy_ #[dT, sT] ty #[.slice (some ⟨g, 0, none⟩) n dCap, .string s]).run P w =
      .ok (goInt (min s.size n)) (w.setRow g ((s.data.toList.take (min s.size n)).map b8 ++ cur.toList.drop (min s.size n)).toArray) := by
  have hl : ((s.data.toList.take (min s.size n)).map b8).length = min s.size n := by rw [List.length_map, List.length_take, ← Lib.size_eq]; omega
  have hst := run_storeCells_at P g 0 t ((s.data.toList.take (min s.size n)).map b8) 0 cur w hg (by rw [hl]; omega) (by
    intro v hv
    obtain ⟨x, _, rfl⟩ := List.mem_map.1 hv
    rfl)
  rw [hl] at hst
  simp only [Nat.add_zero, List.take_zero, List.nil_append, Nat.zero_add] at hst
  cases hq : P.info? elem with
  | none => simp [hq] at hs
  | some i =>
    have hmap : List.take (min s.size n) (List.map (fun b : UInt8 => Value.int IntKind.u8 (b.toNat : Int)) s.data.toList) = (s.data.toList.take (min s.size n)).map b8 := by
      rw [← List.map_take]; rfl
    simp [Builtin.copy_, run_underlying hu, Builtin.lenOf, Builtin.firstCells, sizeOf, typeInfo, hq]
    rw [show (s.size.min n) = min s.size n from rfl, hmap, hst]
    simp only [Result.andThen_ok, List.map_take]
    congr 2
    omega
theorem fill_cells (s : ByteArray) : ((s.data.toList.take (min s.size 64)).map b8 ++ Z64.toList.drop (min s.size 64)).toArray = frc (fillL s.data.toList) := by
  have hs : s.size = s.data.toList.length := by rw [Lib.size_eq]
  rw [hs]
  unfold frc Z64 fillL frc
  rw [List.map_append, List.toList_toArray]
  congr 1
  rcases Nat.le_total s.data.toList.length 64 with h | h
  · rw [Nat.min_eq_left h, List.take_of_length_le (Nat.le_refl _), List.take_of_length_le h]
    simp only [List.map_replicate, List.drop_replicate]
  · rw [Nat.min_eq_right h, Nat.sub_eq_zero_of_le h]
    simp only [List.map_replicate, List.drop_replicate, Nat.sub_self, List.replicate_zero, List.map_nil]
theorem fill_any (s : ByteArray) (w : World) : Calls Try.prog 36 #[.string s] w fun e w' => e = .returned (.pointer (some ⟨w.heap.size, 0, none⟩)) ∧ w' = w.alloc (.cells (frc (fillL s.data.toList)) 92) := by
  have hz := z92
  have hcp : (Builtin.copy_ #[23, 9] 3 #[.slice (some ⟨w.heap.size, 0, none⟩) 64 64, .string s]).run Try.prog (w.alloc (.cells Z64 92)) = .ok (goInt (min (s.size : Int) ((64 : Nat) : Int))) (w.alloc (.cells (frc (fillL s.data.toList)) 92)) := by
    rw [run_copy_str (w.alloc (.cells Z64 92)) 23 9 3 5 w.heap.size 64 64 s Z64 92 Try.underlying23 (by kernel_rfl) (heap_alloc_new w _) (by decide), setRow_alloc, fill_cells]
  go_enter Try.func36, Try.ntmps36
  go_wp2
  go_returns
  exact ⟨rfl, rfl⟩
theorem new_nil (w : World) : Calls Try.prog 11 #[.nilFunc] w fun e w' => e = .returned (.pointer (some ⟨w.heap.size, 0, none⟩)) ∧ w' = w.alloc (.cells (spc .nilFunc fun _ => Sl.zero) 87) := by
  have hz := z87
  have hset : ZSp.setIfInBounds 0 .nilFunc = spc .nilFunc fun _ => Sl.zero := by simp [ZSp, spc]
  go_enter Try.func11, Try.ntmps11
  go_wp2
  go_returns
  exact ⟨rfl, rfl⟩
theorem new_func (f : Fn) (a b : Array Value) (w : World) : Calls Try.prog 11 #[.func f a b] w fun e w' => e = .returned (.pointer (some ⟨w.heap.size, 0, none⟩)) ∧ w' = w.alloc (.cells (spc (.func f a b) fun _ => Sl.zero) 87) := by
  have hz := z87
  have hset : ZSp.setIfInBounds 0 (.func f a b) = spc (.func f a b) fun _ => Sl.zero := by simp [ZSp, spc]
  go_enter Try.func11, Try.ntmps11
  go_wp2
  go_returns
  exact ⟨rfl, rfl⟩
end Go.Proofs.Ytlgnhnjnkhnoiaa
