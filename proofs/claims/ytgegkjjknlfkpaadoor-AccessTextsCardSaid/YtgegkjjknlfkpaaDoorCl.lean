/- The clauses of a change, as Lean data; the method bits, by a contract. -/
import Derived.Test.YtgegkjjknlfkpaaDoorBits
import Derived.Test.YtgegkjjknlfkpaaDoorLits
namespace Go.Proofs.YtgegkjjknlfkpaaDoor
open Go.RowKit
set_option maxRecDepth 100000
/-- A clause. -/
structure Cl where
  u : Bool
  g : Bool
  o : Bool
  op : UInt8
  ls : List UInt8
def LC : Lay Cl := { size := 5, enc := fun c => [.bool c.u, .bool c.g, .bool c.o, b8 c.op, .string (str c.ls)], pos := by decide, len := fun _ => rfl, one := fun a u hu => by simp at hu; rcases hu with rfl | rfl | rfl | rfl | rfl <;> rfl }
def lv (c : UInt8) : Nat := if c = 114 then 4 else if c = 119 then 2 else if c = 120 then 1 else 0
def own1 (a : Nat) (ls : List UInt8) (sh : Nat) : Nat := ls.foldl (fun a c => a ||| lv c * 2 ^ sh) a
def Cl.cls (c : Cl) (k : Nat) : Bool := if k = 0 then c.u else if k = 1 then c.g else c.o
def shf (k : Nat) : Nat := if k = 0 then 6 else if k = 1 then 3 else 0
def ownC (c : Cl) : Nat → Nat
  | 0 => 0
  | k + 1 => if c.cls k then own1 (ownC c k) c.ls (shf k) else ownC c k
def allC (c : Cl) : Nat → Nat
  | 0 => 0
  | k + 1 => if c.cls k then allC c k ||| 7 * 2 ^ shf k else allC c k
def stepS (c : Cl) (a : Nat) (x : UInt8) : Nat := if x = 115 ∧ c.u = true then a ||| 512 else a
def stepT (c : Cl) (a : Nat) (x : UInt8) : Nat := if x = 116 ∧ c.o = true then a ||| 1024 else a
def step3 (c : Cl) (a : Nat) (x : UInt8) : Nat := stepT c (stepS c a x) x
def Cl.own (c : Cl) : Nat := c.ls.foldl (step3 c) (ownC c 3)
def Cl.all (c : Cl) : Nat :=
  let a := if c.u then allC c 3 ||| 512 else allC c 3
  if c.o then a ||| 1024 else a
theorem lv_le (c : UInt8) : lv c ≤ 4 := by unfold lv; split <;> (try split) <;> (try split) <;> omega
theorem shf_le (k : Nat) : 2 ^ shf k ≤ 64 := by unfold shf; split <;> (try split) <;> decide
theorem or_2048 {a b : Nat} (ha : a < 2048) (hb : b < 2048) : a ||| b < 2048 := Nat.or_lt_two_pow (n := 11) ha hb
theorem lvsh (c : UInt8) (k : Nat) : lv c * 2 ^ shf k < 2048 := by
  have h1 := lv_le c; have h2 := shf_le k
  have := Nat.mul_le_mul h1 h2; omega
theorem own1_lt (a : Nat) (ls : List UInt8) (k : Nat) (h : a < 2048) : own1 a ls (shf k) < 2048 := by
  unfold own1
  induction ls generalizing a with
  | nil => exact h
  | cons x r ih => rw [List.foldl_cons]; exact ih _ (or_2048 h (lvsh x k))
theorem ownC_lt (c : Cl) (k : Nat) : ownC c k < 2048 := by
  induction k with
  | zero => simp [ownC]
  | succ k ih => unfold ownC; split
                 · exact own1_lt _ _ _ ih
                 · exact ih
theorem allC_lt (c : Cl) (k : Nat) : allC c k < 2048 := by
  induction k with
  | zero => simp [allC]
  | succ k ih => unfold allC; split
                 · exact or_2048 ih (by have := shf_le k; omega)
                 · exact ih
theorem stepS_lt (c : Cl) (a : Nat) (x : UInt8) (h : a < 2048) : stepS c a x < 2048 := by
  unfold stepS
  split
  · exact or_2048 h (by decide)
  · exact h
theorem stepT_lt (c : Cl) (a : Nat) (x : UInt8) (h : a < 2048) : stepT c a x < 2048 := by
  unfold stepT
  split
  · exact or_2048 h (by decide)
  · exact h
theorem step3_lt (c : Cl) (a : Nat) (x : UInt8) (h : a < 2048) : step3 c a x < 2048 := stepT_lt c _ x (stepS_lt c a x h)
theorem fold3_lt (c : Cl) (ls : List UInt8) (a : Nat) (h : a < 2048) : ls.foldl (step3 c) a < 2048 := by
  induction ls generalizing a with
  | nil => exact h
  | cons x r ih => rw [List.foldl_cons]; exact ih _ (step3_lt c a x h)
/-- The letters' map, as the function lays it. -/
def letterMap : Array MapEntry := #[{ key := .int .u8 114, val := .int .i64 4, born := 0 }, { key := .int .u8 119, val := .int .i64 2, born := 1 }, { key := .int .u8 120, val := .int .i64 1, born := 2 }]
theorem zero3 (w : World) : (zeroValue 3).run Tryd.prog w = .ok (.int .i64 0) w := by kernel_rfl
theorem letter_at {W : World} {b : Nat} {n : Nat} (hb : W.heap[b]? = some (.map letterMap n)) (x : UInt8) : (Instr.lookup 75 (.map (some b)) (.int .u8 (x.toNat : Int)) false).run Tryd.prog W = .ok (.int .i64 (lv x : Nat)) W := by
  have hx : ∀ y : UInt8, x = y ↔ (x.toNat : Int) = (y.toNat : Int) := fun y => by rw [← UInt8.toNat_inj]; omega
  unfold lv
  by_cases h1 : x = 114
  · subst h1; exact run_lookup_some Tryd.underlying75 Tryd.underlying5 hb _ false 0 (.int .i64 4) rfl
  by_cases h2 : x = 119
  · subst h2; exact run_lookup_some Tryd.underlying75 Tryd.underlying5 hb _ false 1 (.int .i64 2) rfl
  by_cases h3 : x = 120
  · subst h3; exact run_lookup_some Tryd.underlying75 Tryd.underlying5 hb _ false 2 (.int .i64 1) rfl
  rw [if_neg h1, if_neg h2, if_neg h3]
  rw [hx] at h1 h2 h3
  refine run_lookup_none Tryd.underlying75 Tryd.underlying5 hb _ false (.int .i64 0) (zero3 W) ?_
  have g1 : ((x.toNat : Int) == 114) = false := by simpa using h1
  have g2 : ((x.toNat : Int) == 119) = false := by simpa using h2
  have g3 : ((x.toNat : Int) == 120) = false := by simpa using h3
  simp [letterMap, Instr.findNow, Instr.sameNow, g1, g2, g3]
theorem own1_step (a : Nat) (ls : List UInt8) (m sh : Nat) (h : m < ls.length) : own1 a (ls.take (m + 1)) sh = own1 a (ls.take m) sh ||| lv (ls.getD m 0) * 2 ^ sh := by
  unfold own1
  rw [List.take_succ_eq_append_getElem h, List.foldl_append]
  simp [List.getD, h]
theorem fold3_step (c : Cl) (a : Nat) (ls : List UInt8) (m : Nat) (h : m < ls.length) : (ls.take (m + 1)).foldl (step3 c) a = step3 c ((ls.take m).foldl (step3 c) a) (ls.getD m 0) := by
  rw [List.take_succ_eq_append_getElem h, List.foldl_append]
  simp [List.getD, h]
theorem or_lv (a b : Nat) (ha : a < 2048) (hb : b < 2048) : bits .or .i64 (a : Int) (b : Int) = ((a ||| b : Nat) : Int) := i64_or_nat a b (by omega) (by omega)
theorem or0 (a : Nat) (x : UInt8) (ha : a < 2048) : bits .or .i64 (a : Int) (wrap64 ((lv x : Nat) * 64)) = ((a ||| lv x * 2 ^ shf 0 : Nat) : Int) := by
  have h := lv_le x
  have e : wrap64 ((lv x : Nat) * 64 : Int) = ((lv x * 64 : Nat) : Int) := by unfold wrap64; omega
  rw [e]; exact or_lv a _ ha (by omega)
theorem or1 (a : Nat) (x : UInt8) (ha : a < 2048) : bits .or .i64 (a : Int) (wrap64 ((lv x : Nat) * 8)) = ((a ||| lv x * 2 ^ shf 1 : Nat) : Int) := by
  have h := lv_le x
  have e : wrap64 ((lv x : Nat) * 8 : Int) = ((lv x * 8 : Nat) : Int) := by unfold wrap64; omega
  rw [e]; exact or_lv a _ ha (by omega)
theorem or2 (a : Nat) (x : UInt8) (ha : a < 2048) : bits .or .i64 (a : Int) (wrap64 (lv x : Nat)) = ((a ||| lv x * 2 ^ shf 2 : Nat) : Int) := by
  have h := lv_le x
  have e : wrap64 (lv x : Nat) = ((lv x : Nat) : Int) := by unfold wrap64; omega
  rw [e, show lv x * 2 ^ shf 2 = lv x from Nat.mul_one _]; exact or_lv a _ ha (by omega)
theorem all0 (a : Nat) (ha : a < 2048) : bits .or .i64 (a : Int) 448 = ((a ||| 7 * 2 ^ shf 0 : Nat) : Int) := or_lv a 448 ha (by decide)
theorem all1 (a : Nat) (ha : a < 2048) : bits .or .i64 (a : Int) 56 = ((a ||| 7 * 2 ^ shf 1 : Nat) : Int) := or_lv a 56 ha (by decide)
theorem all2 (a : Nat) (ha : a < 2048) : bits .or .i64 (a : Int) 7 = ((a ||| 7 * 2 ^ shf 2 : Nat) : Int) := or_lv a 7 ha (by decide)
theorem arr0 (a b c : Bool) (w : World) : (Instr.index 41 (.agg #[.bool a, .bool b, .bool c]) (.int .i64 0)).run Tryd.prog w = .ok (.bool a) w := by kernel_rfl
theorem arr1 (a b c : Bool) (w : World) : (Instr.index 41 (.agg #[.bool a, .bool b, .bool c]) (.int .i64 1)).run Tryd.prog w = .ok (.bool b) w := by kernel_rfl
theorem arr2 (a b c : Bool) (w : World) : (Instr.index 41 (.agg #[.bool a, .bool b, .bool c]) (.int .i64 2)).run Tryd.prog w = .ok (.bool c) w := by kernel_rfl
set_option maxHeartbeats 1000000 in
theorem clbits_any (c : Cl) (hl : c.ls.length ≤ 100) (w : World) (hg : Glob w) :
    Calls Tryd.prog 27 #[.agg #[.bool c.u, .bool c.g, .bool c.o, .int .u8 (c.op.toNat : Int), .string (str c.ls)]] w fun e w' => e = .returned (.tuple #[.int .i64 (c.own : Nat), .int .i64 (c.all : Nat)]) ∧ Below w.heap.size w w' := by
  have hmm := @run_makeMap Tryd.prog
  have i1 : ∀ o : Obj, (Instr.mapUpdate 75 (.map (some (w.heap.size + 1))) (.int .u8 114) (.int .i64 4)).run Tryd.prog ((w.alloc o).alloc (.map #[] 0)) = .ok () ((w.alloc o).alloc (.map #[{ key := .int .u8 114, val := .int .i64 4, born := 0 }] 1)) := fun o => run_insert_new Tryd.underlying75 Tryd.underlying5 (by simp) _ _ rfl
  have i2 : ∀ o : Obj, (Instr.mapUpdate 75 (.map (some (w.heap.size + 1))) (.int .u8 119) (.int .i64 2)).run Tryd.prog ((w.alloc o).alloc (.map #[{ key := .int .u8 114, val := .int .i64 4, born := 0 }] 1)) = .ok () ((w.alloc o).alloc (.map #[{ key := .int .u8 114, val := .int .i64 4, born := 0 }, { key := .int .u8 119, val := .int .i64 2, born := 1 }] 2)) := fun o => run_insert_new Tryd.underlying75 Tryd.underlying5 (by simp) _ _ rfl
  have i3 : ∀ o : Obj, (Instr.mapUpdate 75 (.map (some (w.heap.size + 1))) (.int .u8 120) (.int .i64 1)).run Tryd.prog ((w.alloc o).alloc (.map #[{ key := .int .u8 114, val := .int .i64 4, born := 0 }, { key := .int .u8 119, val := .int .i64 2, born := 1 }] 2)) = .ok () ((w.alloc o).alloc (.map letterMap 3)) := fun o => run_insert_new Tryd.underlying75 Tryd.underlying5 (by simp) _ _ rfl
  have a0 := arr0; have a1 := arr1; have a2 := arr2
  go_enter Tryd.func27, Tryd.ntmps27
  go_wp2
  have hb0 : Below w.heap.size w ((w.alloc (.cells #[.bool c.u, .bool c.g, .bool c.o, .int .u8 (c.op.toNat : Int), .string (str c.ls)] 63)).alloc (.map letterMap 3)) := (((Below.refl _ _).alloc (Nat.le_refl _) _).alloc (by simp) _)
  have hB := (Blk.new w 63 #[.bool c.u, .bool c.g, .bool c.o, .int .u8 (c.op.toNat : Int), .string (str c.ls)]).alloc (.map letterMap 3)
  have hM : ((w.alloc (.cells #[.bool c.u, .bool c.g, .bool c.o, .int .u8 (c.op.toNat : Int), .string (str c.ls)] 63)).alloc (.map letterMap 3)).heap[w.heap.size + 1]? = some (.map letterMap 3) := by
    have := heap_alloc_new (w.alloc (.cells #[.bool c.u, .bool c.g, .bool c.o, .int .u8 (c.op.toNat : Int), .string (str c.ls)] 63)) (.map letterMap 3)
    simpa using this
  have hG := hg.after hg.lt hb0
  generalize (w.alloc (.cells #[.bool c.u, .bool c.g, .bool c.o, .int .u8 (c.op.toNat : Int), .string (str c.ls)] 63)).alloc (.map letterMap 3) = W0 at hb0 hB hM hG ⊢
  clear hmm i1 i2 i3
  have d0 : W0.cell? ⟨w.heap.size, 0, none⟩ = some (.bool c.u) := hB.cell 0
  have d1 : W0.cell? ⟨w.heap.size, 1, none⟩ = some (.bool c.g) := hB.cell 1
  have d2 : W0.cell? ⟨w.heap.size, 2, none⟩ = some (.bool c.o) := hB.cell 2
  have d4 : W0.cell? ⟨w.heap.size, 4, none⟩ = some (.string (str c.ls)) := hB.cell 4
  have g0 := hG.c0; have g1 := hG.c1; have g2 := hG.c2
  have HL : ∀ (j : Nat) (x : UInt8), (Instr.lookup 75 (.map (some (w.heap.size + 1))) (.int .u8 (x.toNat : Int)) false).run Tryd.prog (W0.drewN j) = .ok (.int .i64 (lv x : Nat)) (W0.drewN j) := fun j x => letter_at (show (W0.drewN j).heap[w.heap.size + 1]? = _ from hM) x
  have HB0 := Lib.hid hb0
  clear hb0 hB hM hG hg
  go_loopw [2, 3, 13] (fun v2 v3 i wr => ∃ k j : Nat, k ≤ 3 ∧ i = .int .i64 (k : Nat) ∧ v2 = .int .i64 (ownC c k : Nat) ∧ v3 = .int .i64 (allC c k : Nat) ∧ W0.drewN j = wr) (fun _ _ i _ => 3 - (intOf i).toNat)
  case atStart => exact ⟨0, 0, by omega, rfl, rfl, rfl, rfl⟩
  case round =>
    obtain ⟨k, j, hk, rfl, rfl, rfl, rfl⟩ := hrel
    rcases (show k = 0 ∨ k = 1 ∨ k = 2 ∨ k = 3 by omega) with rfl | rfl | rfl | rfl
    · cases hu : c.u
      · go_wp2
        go_roundw
        case rel => exact ⟨0 + 1, j, by omega, by go_num, by simp [ownC, Cl.cls, hu], by simp [allC, Cl.cls, hu], rfl⟩
        case measure => simp [intOf]
      · go_wp2
        go_loopw [2, 28] (fun v2 i wr => ∃ m j : Nat, m ≤ c.ls.length ∧ i = .int .i64 (m : Nat) ∧ v2 = .int .i64 (own1 (ownC c 0) (c.ls.take m) (shf 0) : Nat) ∧ W0.drewN j = wr) (fun _ i _ => c.ls.length - (intOf i).toNat)
        case atStart => exact ⟨0, j, by omega, rfl, rfl, rfl⟩
        case round =>
          obtain ⟨m, j', hm, rfl, rfl, rfl⟩ := hrel
          by_cases hlt : m < c.ls.length
          · go_wp2
            go_quiet (fail)
            go_wp2
            go_roundw
            case rel => exact ⟨m + 1, j' + nq, by omega, by go_num, by rw [str_get, own1_step _ _ _ _ hlt]; exact congrArg (Value.int .i64) (or0 _ _ (own1_lt _ _ 0 (ownC_lt c 0))), rfl⟩
            case measure => simp [intOf]; omega
          · obtain rfl : m = c.ls.length := by omega
            go_wp2
            go_roundw
            case rel => exact ⟨0 + 1, j', by omega, by go_num, by simp [ownC, Cl.cls, hu], by have := all0 (allC c 0) (allC_lt c 0); simp [allC, Cl.cls, hu] at this ⊢; exact this, rfl⟩
            case measure => simp [intOf]
    · cases hu : c.g
      · go_wp2
        go_roundw
        case rel => exact ⟨1 + 1, j, by omega, by go_num, by simp [ownC, Cl.cls, hu], by simp [allC, Cl.cls, hu], rfl⟩
        case measure => simp [intOf]
      · go_wp2
        go_loopw [2, 28] (fun v2 i wr => ∃ m j : Nat, m ≤ c.ls.length ∧ i = .int .i64 (m : Nat) ∧ v2 = .int .i64 (own1 (ownC c 1) (c.ls.take m) (shf 1) : Nat) ∧ W0.drewN j = wr) (fun _ i _ => c.ls.length - (intOf i).toNat)
        case atStart => exact ⟨0, j, by omega, rfl, rfl, rfl⟩
        case round =>
          obtain ⟨m, j', hm, rfl, rfl, rfl⟩ := hrel
          by_cases hlt : m < c.ls.length
          · go_wp2
            go_quiet (fail)
            go_wp2
            go_roundw
            case rel => exact ⟨m + 1, j' + nq, by omega, by go_num, by rw [str_get, own1_step _ _ _ _ hlt]; exact congrArg (Value.int .i64) (or1 _ _ (own1_lt _ _ 1 (ownC_lt c 1))), rfl⟩
            case measure => simp [intOf]; omega
          · obtain rfl : m = c.ls.length := by omega
            go_wp2
            go_roundw
            case rel => exact ⟨1 + 1, j', by omega, by go_num, by simp [ownC, Cl.cls, hu], by have := all1 (allC c 1) (allC_lt c 1); simp [allC, Cl.cls, hu] at this ⊢; exact this, rfl⟩
            case measure => simp [intOf]
    · cases hu : c.o
      · go_wp2
        go_roundw
        case rel => exact ⟨2 + 1, j, by omega, by go_num, by simp [ownC, Cl.cls, hu], by simp [allC, Cl.cls, hu], rfl⟩
        case measure => simp [intOf]
      · go_wp2
        go_loopw [2, 28] (fun v2 i wr => ∃ m j : Nat, m ≤ c.ls.length ∧ i = .int .i64 (m : Nat) ∧ v2 = .int .i64 (own1 (ownC c 2) (c.ls.take m) (shf 2) : Nat) ∧ W0.drewN j = wr) (fun _ i _ => c.ls.length - (intOf i).toNat)
        case atStart => exact ⟨0, j, by omega, rfl, rfl, rfl⟩
        case round =>
          obtain ⟨m, j', hm, rfl, rfl, rfl⟩ := hrel
          by_cases hlt : m < c.ls.length
          · go_wp2
            go_quiet (fail)
            go_wp2
            go_roundw
            case rel => exact ⟨m + 1, j' + nq, by omega, by go_num, by rw [str_get, own1_step _ _ _ _ hlt]; exact congrArg (Value.int .i64) (or2 _ _ (own1_lt _ _ 2 (ownC_lt c 2))), rfl⟩
            case measure => simp [intOf]; omega
          · obtain rfl : m = c.ls.length := by omega
            go_wp2
            go_roundw
            case rel => exact ⟨2 + 1, j', by omega, by go_num, by simp [ownC, Cl.cls, hu], by have := all2 (allC c 2) (allC_lt c 2); simp [allC, Cl.cls, hu] at this ⊢; exact this, rfl⟩
            case measure => simp [intOf]
    · go_wp2
      go_loopw [2, 48] (fun v2 i wr => ∃ m j : Nat, m ≤ c.ls.length ∧ i = .int .i64 (m : Nat) ∧ v2 = .int .i64 ((c.ls.take m).foldl (step3 c) (ownC c 3) : Nat) ∧ W0.drewN j = wr) (fun _ i _ => c.ls.length - (intOf i).toNat)
      case atStart => exact ⟨0, j, by omega, rfl, rfl, rfl⟩
      case round =>
        obtain ⟨m, j', hm, rfl, rfl, rfl⟩ := hrel
        by_cases hlt : m < c.ls.length
        · have hsz : m < (str c.ls).size := hlt
          obtain ⟨x, hx⟩ : ∃ x, x = c.ls.getD m 0 := ⟨_, rfl⟩
          have hst := fold3_step c (ownC c 3) c.ls m hlt
          rw [← hx] at hst
          have hlt3 := fold3_lt c (c.ls.take m) (ownC c 3) (ownC_lt c 3)
          generalize (c.ls.take m).foldl (step3 c) (ownC c 3) = acc at hst hlt3 ⊢
          have hget : (str c.ls)[m]'hsz = x := (str_get _ _ _).trans hx.symm
          have HST := Lib.hid hst
          have ha : bits .or .i64 (acc : Int) 512 = ((acc ||| 512 : Nat) : Int) := or_lv acc 512 hlt3 (by decide)
          have hb : bits .or .i64 (acc : Int) 1024 = ((acc ||| 1024 : Nat) : Int) := or_lv acc 1024 hlt3 (by decide)
          clear hst hx
          have hxx : ∀ y : UInt8, x = y ↔ x.toNat = y.toNat := fun y => (UInt8.toNat_inj).symm
          have HXX := Lib.hid hxx
          clear hxx
          by_cases h5 : x.toNat = 115
          · have e5 : ((x.toNat : Int) == 115) = true := by simp; omega
            have e6 : ((x.toNat : Int) == 116) = false := by simp; omega
            have x5 : x = 115 := (HXX.out 115).2 h5
            have x6 : ¬ x = 116 := fun h => by rw [x5] at h; revert h; decide
            have X5 := Lib.hid x5; have X6 := Lib.hid x6
            clear x5 x6 h5
            cases hu : c.u
            · go_wp2
              go_roundw
              case rel => exact ⟨m + 1, j', by omega, by go_num, by rw [HST.out]; simp [step3, stepS, stepT, X5.out, hu], rfl⟩
              case measure => simp [intOf]; omega
            · go_wp2
              go_roundw
              case rel => exact ⟨m + 1, j', by omega, by go_num, by rw [HST.out]; simp [step3, stepS, stepT, X5.out, hu], rfl⟩
              case measure => simp [intOf]; omega
          · have e5 : ((x.toNat : Int) == 115) = false := by simp; omega
            have x5 : ¬ x = 115 := fun h => h5 ((HXX.out 115).1 h)
            have X5 := Lib.hid x5
            clear x5 h5
            by_cases h6 : x.toNat = 116
            · have e6 : ((x.toNat : Int) == 116) = true := by simp; omega
              have X6 := Lib.hid ((HXX.out 116).2 h6)
              clear h6
              cases ho : c.o
              · go_wp2
                go_roundw
                case rel => exact ⟨m + 1, j', by omega, by go_num, by rw [HST.out]; simp [step3, stepS, stepT, X6.out, ho], rfl⟩
                case measure => simp [intOf]; omega
              · go_wp2
                go_roundw
                case rel => exact ⟨m + 1, j', by omega, by go_num, by rw [HST.out]; simp [step3, stepS, stepT, X6.out, ho], rfl⟩
                case measure => simp [intOf]; omega
            · have e6 : ((x.toNat : Int) == 116) = false := by simp; omega
              have X6 := Lib.hid (show ¬ x = 116 from fun h => h6 ((HXX.out 116).1 h))
              clear h6
              go_wp2
              go_roundw
              case rel => exact ⟨m + 1, j', by omega, by go_num, by rw [HST.out]; simp [step3, stepS, stepT, X5.out, X6.out], rfl⟩
              case measure => simp [intOf]; omega
        · obtain rfl : m = c.ls.length := by omega
          rw [List.take_length, show c.ls.foldl (step3 c) (ownC c 3) = c.own from rfl]
          have hlt3 := allC_lt c 3
          have ha : bits .or .i64 (allC c 3 : Int) 512 = ((allC c 3 ||| 512 : Nat) : Int) := or_lv (allC c 3) 512 hlt3 (by decide)
          have hb : bits .or .i64 (allC c 3 : Int) 1024 = ((allC c 3 ||| 1024 : Nat) : Int) := or_lv (allC c 3) 1024 hlt3 (by decide)
          have hc : bits .or .i64 ((allC c 3 ||| 512 : Nat) : Int) 1024 = ((allC c 3 ||| 512 ||| 1024 : Nat) : Int) := or_lv (allC c 3 ||| 512) 1024 (or_2048 hlt3 (by decide)) (by decide)
          cases hu : c.u
          · cases ho : c.o
            · have hall : c.all = allC c 3 := by simp [Cl.all, hu, ho]
              have HA := Lib.hid hall
              clear hall
              go_wp2
              go_returns
              rw [HA.out]
              exact ⟨rfl, below_drewN HB0.out _⟩
            · have hall : c.all = allC c 3 ||| 1024 := by simp [Cl.all, hu, ho]
              have HA := Lib.hid hall
              clear hall
              go_wp2
              go_returns
              rw [HA.out]
              exact ⟨rfl, below_drewN HB0.out _⟩
          · cases ho : c.o
            · have hall : c.all = allC c 3 ||| 512 := by simp [Cl.all, hu, ho]
              have HA := Lib.hid hall
              clear hall
              go_wp2
              go_returns
              rw [HA.out]
              exact ⟨rfl, below_drewN HB0.out _⟩
            · have hall : c.all = allC c 3 ||| 512 ||| 1024 := by simp [Cl.all, hu, ho]
              have HA := Lib.hid hall
              clear hall
              go_wp2
              go_returns
              rw [HA.out]
              exact ⟨rfl, below_drewN HB0.out _⟩
end Go.Proofs.YtgegkjjknlfkpaaDoor
