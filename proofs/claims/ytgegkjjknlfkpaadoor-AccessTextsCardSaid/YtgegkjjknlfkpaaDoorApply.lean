/- Apply, by a contract. -/
import Derived.Test.YtgegkjjknlfkpaaDoorClsA
namespace Go.Proofs.YtgegkjjknlfkpaaDoor
open Go.RowKit
set_option maxRecDepth 100000
theorem Cl.own_lt (c : Cl) : c.own < 2048 := fold3_lt c c.ls _ (ownC_lt c 3)
theorem Cl.all_lt (c : Cl) : c.all < 2048 := by
  have h := allC_lt c 3
  unfold Cl.all
  have h1 : (if c.u then allC c 3 ||| 512 else allC c 3) < 2048 := by
    split
    · exact or_2048 h (by decide)
    · exact h
  simp only
  split
  · exact or_2048 h1 (by decide)
  · exact h1
/-- A clause applied. -/
def ap1 (m : Nat) (c : Cl) : Nat := if c.op = 43 then m ||| c.own else if c.op = 45 then andn m c.own else andn m c.all ||| c.own
theorem ap1_lt (m : Nat) (c : Cl) (h : m < 2048) : ap1 m c < 2048 := by
  unfold ap1
  split
  · exact or_2048 h c.own_lt
  split
  · exact Nat.lt_of_le_of_lt (andn_le _ _) h
  · exact or_2048 (Nat.lt_of_le_of_lt (andn_le _ _) h) c.own_lt
theorem apF_lt (l : List Cl) (m : Nat) (h : m < 2048) : l.foldl ap1 m < 2048 := by
  induction l generalizing m with
  | nil => exact h
  | cons a r ih => exact ih _ (ap1_lt m a h)
/-- A change applied: the mode, the offset of the error, the error. -/
def applyM (m : Nat) (s : List UInt8) : Nat × Nat × Nat :=
  if 100 < s.length then (0, 100, 5) else if (clz (s.length + 1) s 0).2.2 = true then ((clz (s.length + 1) s 0).1.foldl ap1 m, 0, 0) else (0, (clz (s.length + 1) s 0).2.1, 30)
theorem clz_each (f : Nat) (s : List UInt8) (k : Nat) : ∀ c ∈ (clz f s k).1, isSign c.op = true ∧ c.ls.length ≤ s.length := by
  induction f generalizing k with
  | zero => intro c hc; simp [clz] at hc
  | succ f ih =>
    intro c hc
    have key : ∀ at1, isSign (s.getD at1 0) = true → isSign (clAt s k at1).op = true ∧ (clAt s k at1).ls.length ≤ s.length := fun at1 h => ⟨h, by
      show (letters s (at1 + 1)).length ≤ _
      have := tw_le isLetter (s.drop (at1 + 1))
      unfold letters; simp at this; omega⟩
    rw [clz] at hc
    simp only at hc
    split at hc
    · simp at hc
    · rename_i h0
      have hs : isSign (s.getD (k + (names s k).length) 0) = true := by
        cases h : isSign (s.getD (k + (names s k).length) 0)
        · exact absurd (.inr (.inr h)) h0
        · rfl
      split at hc
      · rcases List.mem_cons.1 hc with rfl | hc
        · exact key _ hs
        · simp at hc
      split at hc
      · simp at hc
      split at hc
      · rcases List.mem_cons.1 hc with rfl | hc
        · exact key _ hs
        · exact ih _ c hc
      · simp at hc
theorem or_any (a b x y : Nat) (w : World) (ha : w.cell? ⟨a, 0, none⟩ = some (.int .i64 (x : Nat))) (hf : w.frozen? ⟨a, 0, none⟩ = false) (hb : w.cell? ⟨b, 0, none⟩ = some (.int .i64 (y : Nat))) (hx : x < 2048) (hy : y < 2048) :
    Calls Tryd.prog 28 #[.pointer (some ⟨a, 0, none⟩), .pointer (some ⟨b, 0, none⟩)] w fun e w' => e = .returned (.tuple #[]) ∧ w.setCell ⟨a, 0, none⟩ (.int .i64 ((x ||| y : Nat) : Int)) = w' := by
  have h := or_lv x y hx hy
  go_enter Tryd.func28, Tryd.ntmps28
  go_wp2
  go_returns
  exact ⟨rfl, rfl⟩
theorem andn_any (a b x y : Nat) (w : World) (ha : w.cell? ⟨a, 0, none⟩ = some (.int .i64 (x : Nat))) (hf : w.frozen? ⟨a, 0, none⟩ = false) (hb : w.cell? ⟨b, 0, none⟩ = some (.int .i64 (y : Nat))) (hx : x < 2048) (hy : y < 2048) :
    Calls Tryd.prog 29 #[.pointer (some ⟨a, 0, none⟩), .pointer (some ⟨b, 0, none⟩)] w fun e w' => e = .returned (.tuple #[]) ∧ w.setCell ⟨a, 0, none⟩ (.int .i64 ((andn x y : Nat) : Int)) = w' := by
  have h := i64_andNot_nat x y (by omega) (by omega)
  go_enter Tryd.func29, Tryd.ntmps29
  go_wp2
  go_returns
  exact ⟨rfl, rfl⟩
theorem set_any (a b c x y z : Nat) (w : World) (ha : w.cell? ⟨a, 0, none⟩ = some (.int .i64 (x : Nat))) (hf : w.frozen? ⟨a, 0, none⟩ = false) (hb : w.cell? ⟨b, 0, none⟩ = some (.int .i64 (y : Nat))) (hc : w.cell? ⟨c, 0, none⟩ = some (.int .i64 (z : Nat))) (hx : x < 2048) (hy : y < 2048) (hz : z < 2048) :
    Calls Tryd.prog 30 #[.pointer (some ⟨a, 0, none⟩), .pointer (some ⟨b, 0, none⟩), .pointer (some ⟨c, 0, none⟩)] w fun e w' => e = .returned (.tuple #[]) ∧ w.setCell ⟨a, 0, none⟩ (.int .i64 ((andn x y ||| z : Nat) : Int)) = w' := by
  have h := i64_andNot_nat x y (by omega) (by omega)
  have h2 := or_lv (andn x y) z (Nat.lt_of_le_of_lt (andn_le _ _) hx) hz
  go_enter Tryd.func30, Tryd.ntmps30
  go_wp2
  go_returns
  exact ⟨rfl, rfl⟩
set_option maxHeartbeats 2000000 in
theorem apply_any (m : Nat) (s : List UInt8) (w : World) (hg : Glob w) (hm : m ≤ 2047) :
    Calls Tryd.prog 13 #[.int .i64 (m : Nat), .string (str s)] w fun e w' => e = .returned (.tuple #[.int .i64 ((applyM m s).1 : Nat), .int .i64 ((applyM m s).2.1 : Nat), .int .i64 ((applyM m s).2.2 : Nat)]) ∧ Below w.heap.size w w' := by
  have hmm := @run_makeMap Tryd.prog
  have hmf : ∀ (fn : Fn) (first cap : Array Value) (w : World), (Instr.makeFunc fn first cap).run Tryd.prog w = .ok (.func fn first cap) w := fun _ _ _ _ => rfl
  by_cases hlen : 100 < s.length
  · have hR : applyM m s = (0, 100, 5) := by unfold applyM; rw [if_pos hlen]
    have HR := Lib.hid hR
    have hl2 : (100 : Int) < ((str s).size : Nat) := by rw [str_size]; omega
    clear hR
    go_enter Tryd.func13, Tryd.ntmps13
    go_wp2_with fail
    refine (valid_yes m _ hm).mono ?_
    rintro e w1 ⟨rfl, rfl⟩
    go_wp2
    go_returns
    rw [HR.out]
    exact ⟨rfl, (Below.refl _ _).alloc (Nat.le_refl _) _⟩
  · have hle : s.length ≤ 100 := by omega
    have hl2 : ¬ (100 : Int) < ((str s).size : Nat) := by rw [str_size]; omega
    have hR : applyM m s = if (clz (s.length + 1) s 0).2.2 = true then ((clz (s.length + 1) s 0).1.foldl ap1 m, 0, 0) else (0, (clz (s.length + 1) s 0).2.1, 30) := by unfold applyM; rw [if_neg hlen]
    have hcs := clauses_any s hle
    have heach := clz_each (s.length + 1) s 0
    generalize clz (s.length + 1) s 0 = res at hR hcs heach
    obtain ⟨l, at_, ok⟩ := res
    simp only at hR hcs heach
    have HR := Lib.hid hR; have HCS := Lib.hid hcs; have HE := Lib.hid heach
    clear hR hcs heach
    go_enter Tryd.func13, Tryd.ntmps13
    go_wp2_with fail
    refine (valid_yes m _ hm).mono ?_
    rintro e w1 ⟨rfl, rfl⟩
    go_wp2_with fail
    refine (HCS.out _).mono ?_
    rintro e w2 ⟨A, n, c, rfl, hown, hb⟩
    have hw0 : Below w.heap.size w (w.alloc (.cells #[.int .i64 (m : Nat)] 3)) := (Below.refl _ _).alloc (Nat.le_refl _) _
    have hblk0 := Blk.new w 3 #[.int .i64 (m : Nat)]
    have hsz0 : (w.alloc (.cells #[.int .i64 (m : Nat)] 3)).heap.size = w.heap.size + 1 := by simp
    rw [hsz0] at hown hb
    have hblk2 := hblk0.below hb (by omega)
    have hbel2 : Below w.heap.size w w2 := hw0.trans (hb.mono (by omega))
    have hrd := hown.rd
    have hlt := hown.lt
    have hcap := hown.cap
    have HRd := Lib.hid hrd; have HLt := Lib.hid hlt; have HCap := Lib.hid hcap; have HBlk := Lib.hid hblk2; have HBel := Lib.hid hbel2
    have HG := Lib.hid (hg.after hg.lt hbel2)
    have hgl := hg.lt
    have hs2 := hbel2.size
    have hnm : n ≤ 9223372036854775807 := by have := hcap; unfold maxLen at this; omega
    clear hrd hlt hcap hblk2 hbel2 hown hb hblk0 hw0 hg hsz0
    cases ok with
    | false =>
      have HR2 := Lib.hid (show applyM m s = (0, at_, 30) from by rw [HR.out, if_neg (by simp)])
      go_wp2
      go_returns
      rw [HR2.out]
      exact ⟨rfl, HBel.out⟩
    | true =>
      have HR2 := Lib.hid (show applyM m s = (l.foldl ap1 m, 0, 0) from by rw [HR.out, if_pos rfl])
      go_wp2
      go_loopw [32] (fun v wr => ∃ k : Nat, k ≤ n ∧ v = .int .i64 (k : Nat) ∧ Blk wr w.heap.size 3 #[.int .i64 ((l.take k).foldl ap1 m : Nat)] ∧ Keep (fun q => q = w.heap.size) w2 wr) (fun v _ => n - (intOf v).toNat)
      case atStart => exact ⟨0, by omega, rfl, HBlk.out, Keep.refl _ _⟩
      case round =>
        obtain ⟨k, hk, rfl, hblk, hkeep⟩ := hrel
        obtain ⟨wo, rfl⟩ : ∃ wo : World, wo = wr := ⟨_, rfl⟩
        by_cases hlt : k < n
        · have hne : ∀ ad, A = some ad → ¬ ad.block = w.heap.size := fun ad had h => by
            subst had
            have := (HLt.out ad.block (by first | rfl | simp [Value.ownBlock])).1
            omega
          have hrd' := HRd.out.kept hkeep (Nat.le_refl _) (fun _ => hne)
          obtain ⟨b, o, x, rfl, hab, hx, hc⟩ := hrd'.nth hlt
          have e0 : wo.cell? ⟨b, o + k * 5, none⟩ = some (.bool x.u) := hc 0 _ rfl
          have e1 : wo.cell? ⟨b, o + k * 5 + 1, none⟩ = some (.bool x.g) := hc 1 _ rfl
          have e2 : wo.cell? ⟨b, o + k * 5 + 2, none⟩ = some (.bool x.o) := hc 2 _ rfl
          have e3 : wo.cell? ⟨b, o + k * 5 + 3, none⟩ = some (.int .u8 (x.op.toNat : Int)) := hc 3 _ rfl
          have e4 : wo.cell? ⟨b, o + k * 5 + 4, none⟩ = some (.string (str x.ls)) := hc 4 _ rfl
          obtain ⟨hsg, hxl⟩ := HE.out x (List.mem_of_getElem? hx)
          have hnew : (l.take (k + 1)).foldl ap1 m = ap1 ((l.take k).foldl ap1 m) x := by rw [List.take_add_one, hx]; simp
          have hacc := apF_lt (l.take k) m (by omega)
          generalize (l.take k).foldl ap1 m = acc at hnew hacc hblk
          have hGo : Glob (wo.alloc (.cells #[.bool x.u, .bool x.g, .bool x.o, .int .u8 (x.op.toNat : Int), .string (str x.ls)] 63)) := (HG.out.after hgl (hkeep.below (by omega) fun q hq h => by omega)).after (by have := hkeep.size; omega) ((Below.refl _ _).alloc (Nat.le_refl _) _)
          have HNew := Lib.hid hnew; have HK := Lib.hid hkeep; have HB := Lib.hid hblk; have HS := Lib.hid hsg
          have hso := hkeep.size
          clear hrd' hx hc hnew hkeep hblk hsg
          go_wp2_with fail
          refine (clbits_any x (by omega) _ hGo).mono ?_
          rintro e w5 ⟨rfl, hb5⟩
          have hB5 := (HB.out.alloc (.cells #[.bool x.u, .bool x.g, .bool x.o, .int .u8 (x.op.toNat : Int), .string (str x.ls)] 63)).after hb5
          have hC5 := (Blk.new wo 63 #[.bool x.u, .bool x.g, .bool x.o, .int .u8 (x.op.toNat : Int), .string (str x.ls)]).after hb5
          have hK5 := (HK.out.alloc (.cells #[.bool x.u, .bool x.g, .bool x.o, .int .u8 (x.op.toNat : Int), .string (str x.ls)] 63)).after hb5
          clear e0 e1 e2 e3 e4 hb5 hGo
          go_upto_region 12 with fail
          have hB7 := (hB5.alloc (.cells #[.int .i64 (x.own : Nat)] 3)).alloc (.cells #[.int .i64 (x.all : Nat)] 3)
          have hC7 := (hC5.alloc (.cells #[.int .i64 (x.own : Nat)] 3)).alloc (.cells #[.int .i64 (x.all : Nat)] 3)
          have hK7 := (hK5.alloc (.cells #[.int .i64 (x.own : Nat)] 3)).alloc (.cells #[.int .i64 (x.all : Nat)] 3)
          have hO7 := (Blk.new w5 3 #[.int .i64 (x.own : Nat)]).alloc (.cells #[.int .i64 (x.all : Nat)] 3)
          have hA7 := Blk.new (w5.alloc (.cells #[.int .i64 (x.own : Nat)] 3)) 3 #[.int .i64 (x.all : Nat)]
          rw [show (w5.alloc (.cells #[.int .i64 (x.own : Nat)] 3)).heap.size = w5.heap.size + 1 by simp] at hA7
          have hs7 : ((w5.alloc (.cells #[.int .i64 (x.own : Nat)] 3)).alloc (.cells #[.int .i64 (x.all : Nat)] 3)).heap.size = w5.heap.size + 2 := by simp
          generalize (w5.alloc (.cells #[.int .i64 (x.own : Nat)] 3)).alloc (.cells #[.int .i64 (x.all : Nat)] 3) = W7 at hB7 hC7 hK7 hO7 hA7 hs7 ⊢
          have g3 : ∀ ob : Obj, (W7.alloc ob).cell? ⟨wo.heap.size, 3, none⟩ = some (.int .u8 (x.op.toNat : Int)) := fun ob => (hC7.alloc ob).cell 3
          have HB7 := Lib.hid hB7; have HK7 := Lib.hid hK7; have HO7 := Lib.hid hO7; have HA7 := Lib.hid hA7
          have hsz7 := hK7.size
          clear hB5 hC5 hK5 hB7 hC7 hK7 hO7 hA7 hs7 hne
          have hmi1 : ∀ v0 : Value, (Instr.mapUpdate 66 (.map (some W7.heap.size)) (.int .u8 43) v0).run Tryd.prog (W7.alloc (.map #[] 0)) = .ok () (W7.alloc (.map #[{ key := .int .u8 43, val := v0, born := 0 }] 1)) := fun _ => run_insert_new Tryd.underlying66 Tryd.underlying5 rfl _ _ rfl
          have hmi2 : ∀ v0 v1 : Value, (Instr.mapUpdate 66 (.map (some W7.heap.size)) (.int .u8 45) v1).run Tryd.prog (W7.alloc (.map #[{ key := .int .u8 43, val := v0, born := 0 }] 1)) = .ok () (W7.alloc (.map #[{ key := .int .u8 43, val := v0, born := 0 }, { key := .int .u8 45, val := v1, born := 1 }] 2)) := fun _ _ => run_insert_new Tryd.underlying66 Tryd.underlying5 rfl _ _ rfl
          have hmi3 : ∀ v0 v1 v2 : Value, (Instr.mapUpdate 66 (.map (some W7.heap.size)) (.int .u8 61) v2).run Tryd.prog (W7.alloc (.map #[{ key := .int .u8 43, val := v0, born := 0 }, { key := .int .u8 45, val := v1, born := 1 }] 2)) = .ok () (W7.alloc (.map #[{ key := .int .u8 43, val := v0, born := 0 }, { key := .int .u8 45, val := v1, born := 1 }, { key := .int .u8 61, val := v2, born := 2 }] 3)) := fun _ _ _ => run_insert_new Tryd.underlying66 Tryd.underlying5 rfl _ _ rfl
          have hop : x.op = 43 ∨ x.op = 45 ∨ x.op = 61 := by
            have h := HS.out
            unfold isSign at h
            simp only [Bool.or_eq_true, beq_iff_eq] at h
            rcases h with (h | h) | h
            · exact .inl h
            · exact .inr (.inl h)
            · exact .inr (.inr h)
          rcases hop with hop | hop | hop
          · rw [hop] at g3
            have hlk : ∀ v0 v1 v2 : Value, (Instr.lookup 66 (.map (some W7.heap.size)) (.int .u8 43) false).run Tryd.prog (W7.alloc (.map #[{ key := .int .u8 43, val := v0, born := 0 }, { key := .int .u8 45, val := v1, born := 1 }, { key := .int .u8 61, val := v2, born := 2 }] 3)) = .ok v0 (W7.alloc (.map #[{ key := .int .u8 43, val := v0, born := 0 }, { key := .int .u8 45, val := v1, born := 1 }, { key := .int .u8 61, val := v2, born := 2 }] 3)) := fun _ _ _ => run_lookup_some Tryd.underlying66 Tryd.underlying5 (heap_alloc_new _ _) _ false 0 _ rfl
            have g3' : ∀ ob : Obj, (W7.alloc ob).cell? ⟨wo.heap.size, 3, none⟩ = some (.int .u8 43) := g3
            clear g3
            have hval : ap1 acc x = acc ||| x.own := by unfold ap1; simp [hop]
            have HVal := Lib.hid hval
            clear hval hop
            go_wp2_with fail
            refine (or_any w.heap.size w5.heap.size acc x.own _ ((HB7.out.alloc _).cell 0) ((HB7.out.alloc _).frozen 0) ((HO7.out.alloc _).cell 0) hacc x.own_lt).mono ?_
            rintro e w8 ⟨rfl, rfl⟩
            go_wp2
            go_roundw
            case rel => exact ⟨k + 1, by omega, by go_num, by rw [HNew.out, HVal.out]; exact (HB7.out.alloc _).set_ 0 _, (HK7.out.alloc _).setCell (fun _ => rfl) _⟩
            case measure => simp [intOf]; omega
          · rw [hop] at g3
            have hlk : ∀ v0 v1 v2 : Value, (Instr.lookup 66 (.map (some W7.heap.size)) (.int .u8 45) false).run Tryd.prog (W7.alloc (.map #[{ key := .int .u8 43, val := v0, born := 0 }, { key := .int .u8 45, val := v1, born := 1 }, { key := .int .u8 61, val := v2, born := 2 }] 3)) = .ok v1 (W7.alloc (.map #[{ key := .int .u8 43, val := v0, born := 0 }, { key := .int .u8 45, val := v1, born := 1 }, { key := .int .u8 61, val := v2, born := 2 }] 3)) := fun _ _ _ => run_lookup_some Tryd.underlying66 Tryd.underlying5 (heap_alloc_new _ _) _ false 1 _ rfl
            have g3' : ∀ ob : Obj, (W7.alloc ob).cell? ⟨wo.heap.size, 3, none⟩ = some (.int .u8 45) := g3
            clear g3
            have hval : ap1 acc x = andn acc x.own := by unfold ap1; simp [hop]
            have HVal := Lib.hid hval
            clear hval hop
            go_wp2_with fail
            refine (andn_any w.heap.size w5.heap.size acc x.own _ ((HB7.out.alloc _).cell 0) ((HB7.out.alloc _).frozen 0) ((HO7.out.alloc _).cell 0) hacc x.own_lt).mono ?_
            rintro e w8 ⟨rfl, rfl⟩
            go_wp2
            go_roundw
            case rel => exact ⟨k + 1, by omega, by go_num, by rw [HNew.out, HVal.out]; exact (HB7.out.alloc _).set_ 0 _, (HK7.out.alloc _).setCell (fun _ => rfl) _⟩
            case measure => simp [intOf]; omega
          · rw [hop] at g3
            have hlk : ∀ v0 v1 v2 : Value, (Instr.lookup 66 (.map (some W7.heap.size)) (.int .u8 61) false).run Tryd.prog (W7.alloc (.map #[{ key := .int .u8 43, val := v0, born := 0 }, { key := .int .u8 45, val := v1, born := 1 }, { key := .int .u8 61, val := v2, born := 2 }] 3)) = .ok v2 (W7.alloc (.map #[{ key := .int .u8 43, val := v0, born := 0 }, { key := .int .u8 45, val := v1, born := 1 }, { key := .int .u8 61, val := v2, born := 2 }] 3)) := fun _ _ _ => run_lookup_some Tryd.underlying66 Tryd.underlying5 (heap_alloc_new _ _) _ false 2 _ rfl
            have g3' : ∀ ob : Obj, (W7.alloc ob).cell? ⟨wo.heap.size, 3, none⟩ = some (.int .u8 61) := g3
            clear g3
            have hval : ap1 acc x = andn acc x.all ||| x.own := by unfold ap1; simp [hop]
            have HVal := Lib.hid hval
            clear hval hop
            go_wp2_with fail
            refine (set_any w.heap.size (w5.heap.size + 1) w5.heap.size acc x.all x.own _ ((HB7.out.alloc _).cell 0) ((HB7.out.alloc _).frozen 0) ((HA7.out.alloc _).cell 0) ((HO7.out.alloc _).cell 0) hacc x.all_lt x.own_lt).mono ?_
            rintro e w8 ⟨rfl, rfl⟩
            go_wp2
            go_roundw
            case rel => exact ⟨k + 1, by omega, by go_num, by rw [HNew.out, HVal.out]; exact (HB7.out.alloc _).set_ 0 _, (HK7.out.alloc _).setCell (fun _ => rfl) _⟩
            case measure => simp [intOf]; omega
        · obtain rfl : k = n := by omega
          have hl : l.take k = l := by rw [← HCap.out.1]; exact List.take_length
          rw [hl] at hblk
          have d0 : wo.cell? ⟨w.heap.size, 0, none⟩ = some (.int .i64 (l.foldl ap1 m : Nat)) := hblk.cell 0
          have hfin : Below w.heap.size w wo := HBel.out.trans (hkeep.below (by omega) fun q hq h => by omega)
          have HF := Lib.hid hfin
          clear hfin hkeep hblk hl
          go_wp2
          go_returns
          rw [HR2.out]
          exact ⟨rfl, HF.out⟩
end Go.Proofs.YtgegkjjknlfkpaaDoor
