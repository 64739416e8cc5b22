/- The parser of a change's clauses, by a contract. -/
import Derived.Test.YtgegkjjknlfkpaaDoorCls
import Derived.Deep.CutBlock
import Derived.Deep.DeepCutAuto
namespace Go.Proofs.YtgegkjjknlfkpaaDoor
open Go.RowKit
set_option maxRecDepth 100000
theorem ElC : Elem Tryd.prog 59 63 LC.size 24 := Elem.of (z := .agg #[.bool false, .bool false, .bool false, .int .u8 0, .string ByteArray.empty]) Tryd.underlying59 (by kernel_rfl) rfl
def namesMap : Array MapEntry := #[{ key := .int .u8 117, val := .agg #[.bool true, .bool false, .bool false], born := 0 }, { key := .int .u8 103, val := .agg #[.bool false, .bool true, .bool false], born := 1 }, { key := .int .u8 111, val := .agg #[.bool false, .bool false, .bool true], born := 2 }, { key := .int .u8 97, val := .agg #[.bool true, .bool true, .bool true], born := 3 }]
theorem zero41 (w : World) : (zeroValue 41).run Tryd.prog w = .ok (.agg #[.bool false, .bool false, .bool false]) w := by kernel_rfl
theorem name_at {W : World} {b : Nat} {n : Nat} (hb : W.heap[b]? = some (.map namesMap n)) (x : UInt8) : (Instr.lookup 73 (.map (some b)) (.int .u8 (x.toNat : Int)) true).run Tryd.prog W = .ok (.tuple #[.agg #[.bool (x == 117 || x == 97), .bool (x == 103 || x == 97), .bool (x == 111 || x == 97)], .bool (isName x)]) W := by
  by_cases h1 : x = 117
  · subst h1; exact run_lookup_some Tryd.underlying73 Tryd.underlying5 hb _ true 0 _ rfl
  by_cases h2 : x = 103
  · subst h2; exact run_lookup_some Tryd.underlying73 Tryd.underlying5 hb _ true 1 _ rfl
  by_cases h3 : x = 111
  · subst h3; exact run_lookup_some Tryd.underlying73 Tryd.underlying5 hb _ true 2 _ rfl
  by_cases h4 : x = 97
  · subst h4; exact run_lookup_some Tryd.underlying73 Tryd.underlying5 hb _ true 3 _ rfl
  have e1 : (x == 117) = false := by simpa using h1
  have e2 : (x == 103) = false := by simpa using h2
  have e3 : (x == 111) = false := by simpa using h3
  have e4 : (x == 97) = false := by simpa using h4
  unfold isName
  rw [e1, e2, e3, e4]
  have hx : ∀ y : UInt8, x = y ↔ (x.toNat : Int) = (y.toNat : Int) := fun y => by rw [← UInt8.toNat_inj]; omega
  rw [hx] at h1 h2 h3 h4
  refine run_lookup_none Tryd.underlying73 Tryd.underlying5 hb _ true (.agg #[.bool false, .bool false, .bool false]) (zero41 W) ?_
  have g1 : ((x.toNat : Int) == 117) = false := by simpa using h1
  have g2 : ((x.toNat : Int) == 103) = false := by simpa using h2
  have g3 : ((x.toNat : Int) == 111) = false := by simpa using h3
  have g4 : ((x.toNat : Int) == 97) = false := by simpa using h4
  simp [namesMap, Instr.findNow, Instr.sameNow, g1, g2, g3, g4]
def cellsOf (c : Cl) : Array Value := #[.bool c.u, .bool c.g, .bool c.o, .int .u8 (c.op.toNat : Int), .string (str c.ls)]
def nmK (c : Cl) (U G O : Bool) (i : Nat) : Cl := { c with u := if 0 < i then c.u || U else c.u, g := if 1 < i then c.g || G else c.g, o := if 2 < i then c.o || O else c.o }
theorem nmK_0 (c : Cl) (U G O : Bool) : nmK c U G O 0 = c := rfl
theorem nmK_3 (c : Cl) (x : UInt8) : nmK c (x == 117 || x == 97) (x == 103 || x == 97) (x == 111 || x == 97) 3 = nm c x := rfl
theorem comb_nil (f : Nat) (s : List UInt8) (k : Nat) : comb [] (clz f s k) = clz f s k := by
  cases f with
  | zero => rfl
  | succ f =>
    rw [clz]
    simp only
    split
    · rfl
    split
    · rfl
    split
    · rfl
    split
    · rfl
    · rfl
set_option maxHeartbeats 2000000 in
theorem clauses_any (s : List UInt8) (hs : s.length ≤ 100) (w : World) :
    Calls Tryd.prog 26 #[.string (str s)] w fun e w' => ∃ A m c', e = .returned (.tuple #[.slice A m c', .int .i64 ((clz (s.length + 1) s 0).2.1 : Nat), .bool (clz (s.length + 1) s 0).2.2]) ∧ Own w' w.heap.size 63 LC (.slice A m c') (clz (s.length + 1) s 0).1 ∧ Below w.heap.size w w' := by
  generalize hres : clz (s.length + 1) s 0 = res
  have hres0 : res = comb [] (clz (s.length + 1) s 0) := by rw [comb_nil, hres]
  have HRes := Lib.hid hres0
  clear hres hres0
  have hmm := @run_makeMap Tryd.prog
  go_enter Tryd.func26, Tryd.ntmps26
  go_wp2
  go_loopw [2, 3] (fun v2 v3 wr => ∃ (f k : Nat) (cur : List Cl), k ≤ s.length ∧ v3 = .int .i64 (k : Nat) ∧ Own wr w.heap.size 63 LC v2 cur ∧ Below w.heap.size w wr ∧ s.length < f + k ∧ cur.length ≤ k ∧ res = comb cur (clz f s k)) (fun _ v3 _ => s.length - (intOf v3).toNat)
  case atStart => exact ⟨s.length + 1, 0, [], by omega, rfl, Own.nil_, Below.refl _ _, by omega, by simp, HRes.out⟩
  case round =>
    obtain ⟨f, k, cur, hk, rfl, hown, hb, hf, hcl, hr⟩ := hrel
    obtain ⟨wo, rfl⟩ : ∃ wo : World, wo = wr := ⟨_, rfl⟩
    obtain ⟨f, rfl⟩ : ∃ f', f = f' + 1 := ⟨f - 1, by omega⟩
    have HR := Lib.hid hr; have HO := Lib.hid hown; have HBl := Lib.hid hb
    clear hr hown hb
    go_upto_block 2 with fail
    have hb1 : Below wo.heap.size wo (wo.alloc (.cells #[.bool false, .bool false, .bool false, .int .u8 0, .string ByteArray.empty] 63)) := (Below.refl _ _).alloc (Nat.le_refl _) _
    have hB1 : Blk (wo.alloc (.cells #[.bool false, .bool false, .bool false, .int .u8 0, .string ByteArray.empty] 63)) wo.heap.size 63 (cellsOf Cl.zero) := Blk.new wo 63 _
    have HB1 := Lib.hid (And.intro hb1 hB1)
    clear hb1 hB1
    have hnle := names_le s k hk
    go_cut [3] (fun v3 wr => v3 = .int .i64 ((k + (names s k).length : Nat) : Int) ∧ Blk wr wo.heap.size 63 (cellsOf (clNames s k)) ∧ Below wo.heap.size wo wr)
    case first =>
      go_wp2_with fail
      go_loopw [3] (fun v3 wr => ∃ q : Nat, k ≤ q ∧ q ≤ k + (names s k).length ∧ v3 = .int .i64 (q : Nat) ∧ Blk wr wo.heap.size 63 (cellsOf (((names s k).take (q - k)).foldl nm Cl.zero)) ∧ Below wo.heap.size wo wr) (fun v3 _ => s.length - (intOf v3).toNat)
      case atStart => exact ⟨k, by omega, by omega, rfl, by rw [Nat.sub_self]; exact HB1.out.2, HB1.out.1⟩
      case round =>
        obtain ⟨q, hkq, hq, rfl, hblk, hbel⟩ := hrel
        obtain ⟨w1, rfl⟩ : ∃ w1 : World, w1 = wr := ⟨_, rfl⟩
        have HBlk := Lib.hid hblk; have HBel := Lib.hid hbel
        clear hblk hbel
        by_cases hlt : q < s.length
        · have hsz : q < (str s).size := hlt
          obtain ⟨x, hx⟩ : ∃ x, x = s.getD q 0 := ⟨_, rfl⟩
          have hget : (str s)[q]'hsz = x := (str_get _ _ _).trans hx.symm
          have HX := Lib.hid hx
          clear hx
          have hmi1 : (Instr.mapUpdate 73 (.map (some w1.heap.size)) (.int .u8 117) (.agg #[.bool true, .bool false, .bool false])).run Tryd.prog (w1.alloc (.map #[] 0)) = .ok () (w1.alloc (.map #[{ key := .int .u8 117, val := .agg #[.bool true, .bool false, .bool false], born := 0 }] 1)) := run_insert_new Tryd.underlying73 Tryd.underlying5 rfl _ _ rfl
          have hmi2 : (Instr.mapUpdate 73 (.map (some w1.heap.size)) (.int .u8 103) (.agg #[.bool false, .bool true, .bool false])).run Tryd.prog (w1.alloc (.map #[{ key := .int .u8 117, val := .agg #[.bool true, .bool false, .bool false], born := 0 }] 1)) = .ok () (w1.alloc (.map #[{ key := .int .u8 117, val := .agg #[.bool true, .bool false, .bool false], born := 0 }, { key := .int .u8 103, val := .agg #[.bool false, .bool true, .bool false], born := 1 }] 2)) := run_insert_new Tryd.underlying73 Tryd.underlying5 rfl _ _ rfl
          have hmi3 : (Instr.mapUpdate 73 (.map (some w1.heap.size)) (.int .u8 111) (.agg #[.bool false, .bool false, .bool true])).run Tryd.prog (w1.alloc (.map #[{ key := .int .u8 117, val := .agg #[.bool true, .bool false, .bool false], born := 0 }, { key := .int .u8 103, val := .agg #[.bool false, .bool true, .bool false], born := 1 }] 2)) = .ok () (w1.alloc (.map #[{ key := .int .u8 117, val := .agg #[.bool true, .bool false, .bool false], born := 0 }, { key := .int .u8 103, val := .agg #[.bool false, .bool true, .bool false], born := 1 }, { key := .int .u8 111, val := .agg #[.bool false, .bool false, .bool true], born := 2 }] 3)) := run_insert_new Tryd.underlying73 Tryd.underlying5 rfl _ _ rfl
          have hmi4 : (Instr.mapUpdate 73 (.map (some w1.heap.size)) (.int .u8 97) (.agg #[.bool true, .bool true, .bool true])).run Tryd.prog (w1.alloc (.map #[{ key := .int .u8 117, val := .agg #[.bool true, .bool false, .bool false], born := 0 }, { key := .int .u8 103, val := .agg #[.bool false, .bool true, .bool false], born := 1 }, { key := .int .u8 111, val := .agg #[.bool false, .bool false, .bool true], born := 2 }] 3)) = .ok () (w1.alloc (.map namesMap 4)) := run_insert_new Tryd.underlying73 Tryd.underlying5 rfl _ _ rfl
          have hlk := name_at (W := w1.alloc (.map namesMap 4)) (b := w1.heap.size) (heap_alloc_new _ _) x
          obtain ⟨U, hU⟩ : ∃ U, U = (x == 117 || x == 97) := ⟨_, rfl⟩
          obtain ⟨G, hG⟩ : ∃ G, G = (x == 103 || x == 97) := ⟨_, rfl⟩
          obtain ⟨O, hO⟩ : ∃ O, O = (x == 111 || x == 97) := ⟨_, rfl⟩
          rw [← hU, ← hG, ← hO] at hlk
          have HUGO := Lib.hid (And.intro hU (And.intro hG hO))
          clear hU hG hO
          have hfin : isName x = false ∨ s.length ≤ q → q = k + (names s k).length := fun h => by
            have := names_end s k (q - k) (by omega) (by
              rw [show k + (q - k) = q by omega]
              rcases h with h | h
              · right; rw [← HX.out]; exact h
              · left; exact h)
            omega
          have HFin := Lib.hid hfin
          clear hfin
          cases hN : isName x
          · rw [hN] at hlk
            have HN := Lib.hid hN; clear hN
            go_wp2
            go_meet
            have hq' := HFin.out (.inl HN.out)
            have hB := HBlk.out
            rw [show q - k = (names s k).length by omega, List.take_length] at hB
            exact ⟨by rw [← hq'], (hB.alloc _).alloc _, ((HBel.out.alloc HBel.out.size _).alloc (by have := HBel.out.size; simp; omega) _)⟩
          · rw [hN] at hlk
            have HN := Lib.hid hN; clear hN
            go_wp2
            obtain ⟨hmore1, hmore2⟩ := names_more s k (q - k) (by omega) (by omega) (by rw [show k + (q - k) = q by omega, ← HX.out]; exact HN.out)
            rw [show k + (q - k) = q by omega, ← HX.out] at hmore2
            generalize hc0 : ((names s k).take (q - k)).foldl nm Cl.zero = c0 at hmore2
            have hB := HBlk.out
            rw [hc0] at hB
            have hB2 := (hB.alloc (.map namesMap 4)).alloc (.cells #[.bool U, .bool G, .bool O] 41)
            have hD2 := Blk.new (w1.alloc (.map namesMap 4)) 41 #[.bool U, .bool G, .bool O]
            have hbel2 : Below wo.heap.size wo ((w1.alloc (.map namesMap 4)).alloc (.cells #[.bool U, .bool G, .bool O] 41)) := ((HBel.out.alloc HBel.out.size _).alloc (by have := HBel.out.size; simp; omega) _)
            rw [show (w1.alloc (.map namesMap 4)).heap.size = w1.heap.size + 1 by simp] at hD2
            have hne : wo.heap.size < w1.heap.size + 1 := by have := HBel.out.size; omega
            have HMore := Lib.hid (And.intro hmore1 hmore2)
            generalize (w1.alloc (.map namesMap 4)).alloc (.cells #[.bool U, .bool G, .bool O] 41) = W2 at hB2 hD2 hbel2 ⊢
            have HB2 := Lib.hid hB2; have HD2 := Lib.hid hD2; have HBel2 := Lib.hid hbel2
            clear hB hB2 hD2 hbel2 hlk hmi1 hmi2 hmi3 hmi4 hmore1 hmore2 hc0 hget
            go_loopw [34] (fun v wr => ∃ i : Nat, i ≤ 3 ∧ v = .int .i64 (i : Nat) ∧ Blk wr wo.heap.size 63 (cellsOf (nmK c0 U G O i)) ∧ Blk wr (w1.heap.size + 1) 41 #[.bool U, .bool G, .bool O] ∧ Below wo.heap.size wo wr) (fun v _ => 3 - (intOf v).toNat)
            case atStart => exact ⟨0, by omega, rfl, by rw [nmK_0]; exact HB2.out, HD2.out, HBel2.out⟩
            case round =>
              obtain ⟨i, hi, rfl, hB, hD, hbl⟩ := hrel
              have c0f := hB.frozen 0; have c1f := hB.frozen 1; have c2f := hB.frozen 2
              have d0 : wr.cell? ⟨w1.heap.size + 1, 0, none⟩ = some (.bool U) := hD.cell 0
              have d1 : wr.cell? ⟨w1.heap.size + 1, 1, none⟩ = some (.bool G) := hD.cell 1
              have d2 : wr.cell? ⟨w1.heap.size + 1, 2, none⟩ = some (.bool O) := hD.cell 2
              have HB := Lib.hid hB; have HD := Lib.hid hD; have HBL := Lib.hid hbl
              rcases (show i = 0 ∨ i = 1 ∨ i = 2 ∨ i = 3 by omega) with rfl | rfl | rfl | rfl
              · have e0 : wr.cell? ⟨wo.heap.size, 0, none⟩ = some (.bool c0.u) := hB.cell 0
                clear hB hD hbl
                cases hu : c0.u
                · rw [hu] at e0
                  go_wp2
                  go_roundw
                  case rel =>
                    refine ⟨0 + 1, by omega, by go_num, ?_, HD.out.far (by show w1.heap.size + 1 ≠ wo.heap.size; omega) _, HBL.out.setCell (Nat.le_refl _) _⟩
                    rw [show cellsOf (nmK c0 U G O (0 + 1)) = (cellsOf (nmK c0 U G O 0)).setIfInBounds 0 (.bool U) by simp [cellsOf, nmK, hu]]
                    exact HB.out.set_ 0 _
                  case measure => simp [intOf]
                · rw [hu] at e0
                  go_wp2
                  go_roundw
                  case rel =>
                    refine ⟨0 + 1, by omega, by go_num, ?_, HD.out.far (by show w1.heap.size + 1 ≠ wo.heap.size; omega) _, HBL.out.setCell (Nat.le_refl _) _⟩
                    rw [show cellsOf (nmK c0 U G O (0 + 1)) = (cellsOf (nmK c0 U G O 0)).setIfInBounds 0 (.bool true) by simp [cellsOf, nmK, hu]]
                    exact HB.out.set_ 0 _
                  case measure => simp [intOf]
              · have e0 : wr.cell? ⟨wo.heap.size, 1, none⟩ = some (.bool c0.g) := hB.cell 1
                clear hB hD hbl
                cases hu : c0.g
                · rw [hu] at e0
                  go_wp2
                  go_roundw
                  case rel =>
                    refine ⟨1 + 1, by omega, by go_num, ?_, HD.out.far (by show w1.heap.size + 1 ≠ wo.heap.size; omega) _, HBL.out.setCell (Nat.le_refl _) _⟩
                    rw [show cellsOf (nmK c0 U G O (1 + 1)) = (cellsOf (nmK c0 U G O 1)).setIfInBounds 1 (.bool G) by simp [cellsOf, nmK, hu]]
                    exact HB.out.set_ 1 _
                  case measure => simp [intOf]
                · rw [hu] at e0
                  go_wp2
                  go_roundw
                  case rel =>
                    refine ⟨1 + 1, by omega, by go_num, ?_, HD.out.far (by show w1.heap.size + 1 ≠ wo.heap.size; omega) _, HBL.out.setCell (Nat.le_refl _) _⟩
                    rw [show cellsOf (nmK c0 U G O (1 + 1)) = (cellsOf (nmK c0 U G O 1)).setIfInBounds 1 (.bool true) by simp [cellsOf, nmK, hu]]
                    exact HB.out.set_ 1 _
                  case measure => simp [intOf]
              · have e0 : wr.cell? ⟨wo.heap.size, 2, none⟩ = some (.bool c0.o) := hB.cell 2
                clear hB hD hbl
                cases hu : c0.o
                · rw [hu] at e0
                  go_wp2
                  go_roundw
                  case rel =>
                    refine ⟨2 + 1, by omega, by go_num, ?_, HD.out.far (by show w1.heap.size + 1 ≠ wo.heap.size; omega) _, HBL.out.setCell (Nat.le_refl _) _⟩
                    rw [show cellsOf (nmK c0 U G O (2 + 1)) = (cellsOf (nmK c0 U G O 2)).setIfInBounds 2 (.bool O) by simp [cellsOf, nmK, hu]]
                    exact HB.out.set_ 2 _
                  case measure => simp [intOf]
                · rw [hu] at e0
                  go_wp2
                  go_roundw
                  case rel =>
                    refine ⟨2 + 1, by omega, by go_num, ?_, HD.out.far (by show w1.heap.size + 1 ≠ wo.heap.size; omega) _, HBL.out.setCell (Nat.le_refl _) _⟩
                    rw [show cellsOf (nmK c0 U G O (2 + 1)) = (cellsOf (nmK c0 U G O 2)).setIfInBounds 2 (.bool true) by simp [cellsOf, nmK, hu]]
                    exact HB.out.set_ 2 _
                  case measure => simp [intOf]
              · go_wp2
                go_roundw
                case rel =>
                  refine ⟨q + 1, by omega, by have := HMore.out.1; omega, by go_num, ?_, hbl⟩
                  rw [show q + 1 - k = q - k + 1 by omega, HMore.out.2]
                  obtain ⟨rfl, rfl, rfl⟩ := HUGO.out
                  exact hB
                case measure => simp [intOf]; omega
        · go_wp2
          go_meet
          have hq' := names_end s k (q - k) (by omega) (.inl (by omega))
          have hB := HBlk.out
          rw [hq', List.take_length] at hB
          exact ⟨by rw [← hq']; congr 1; omega, hB, HBel.out⟩
    case rest =>
      obtain ⟨h3, hB, hbel⟩ := hcut
      obtain ⟨w1, rfl⟩ : ∃ w1 : World, w1 = wc := ⟨_, rfl⟩
      have HB := Lib.hid hB; have HBel := Lib.hid hbel
      obtain ⟨at1, h1⟩ : ∃ at1, at1 = k + (names s k).length := ⟨_, rfl⟩
      rw [← h1] at h3
      subst h3
      have HA := Lib.hid h1
      have hkat : k ≤ at1 ∧ at1 ≤ s.length := by omega
      have hany : Below w.heap.size w w1 := HBl.out.trans (hbel.mono HBl.out.size)
      have HAny := Lib.hid hany
      clear hB hbel h1 hany
      have hfail : ((names s k).length = 0 ∨ s.length ≤ at1 ∨ isSign (s.getD at1 0) = false) → res = ([], at1, false) := fun h => by
        rw [HR.out, HA.out]; rw [HA.out] at h; exact clz_fail1 h
      have HFail := Lib.hid hfail
      clear hfail
      by_cases e1 : at1 = k
      · have HRes2 := Lib.hid (HFail.out (.inl (by have := HA.out; omega)))
        have e0 : ((at1 : Int) == (k : Int)) = true := by simp; omega
        clear e1
        go_wp2
        go_returns
        rw [HRes2.out]
        exact ⟨none, 0, 0, rfl, Own.nil_, HAny.out⟩
      by_cases e2 : at1 = s.length
      · have HRes2 := Lib.hid (HFail.out (.inr (.inl (by omega))))
        have e0 : ((at1 : Int) == (k : Int)) = false := by simp; omega
        have e3 : ((at1 : Int) == (((str s).size : Nat) : Int)) = true := by rw [str_size]; simp; omega
        clear e1 e2
        go_wp2
        go_returns
        rw [HRes2.out]
        exact ⟨none, 0, 0, rfl, Own.nil_, HAny.out⟩
      have e0 : ((at1 : Int) == (k : Int)) = false := by simp; omega
      have e3 : ((at1 : Int) == (((str s).size : Nat) : Int)) = false := by rw [str_size]; simp; omega
      have hlt : at1 < s.length := by omega
      have hsz : at1 < (str s).size := hlt
      obtain ⟨x, hx⟩ : ∃ x, x = s.getD at1 0 := ⟨_, rfl⟩
      have hget : (str s)[at1]'hsz = x := (str_get _ _ _).trans hx.symm
      have HX := Lib.hid hx
      have HE1 := Lib.hid e1
      clear hx e1 e2
      cases hS : isSign x
      · have HRes2 := Lib.hid (HFail.out (.inr (.inr (by rw [← HX.out]; exact hS))))
        have f1 : ((x.toNat : Int) != 43) = true := by
          have : x ≠ 43 := fun h => by rw [h] at hS; revert hS; decide
          have h2 : x.toNat ≠ 43 := fun h => this (UInt8.toNat_inj.1 h)
          simp; omega
        have f2 : ((x.toNat : Int) != 45) = true := by
          have : x ≠ 45 := fun h => by rw [h] at hS; revert hS; decide
          have h2 : x.toNat ≠ 45 := fun h => this (UInt8.toNat_inj.1 h)
          simp; omega
        have f3 : ((x.toNat : Int) != 61) = true := by
          have : x ≠ 61 := fun h => by rw [h] at hS; revert hS; decide
          have h2 : x.toNat ≠ 61 := fun h => this (UInt8.toNat_inj.1 h)
          simp; omega
        clear hS
        go_wp2
        go_returns
        rw [HRes2.out]
        exact ⟨none, 0, 0, rfl, Own.nil_, HAny.out⟩
      have hsg : x.toNat = 43 ∨ x.toNat = 45 ∨ x.toNat = 61 := by
        unfold isSign at hS
        simp only [Bool.or_eq_true, beq_iff_eq] at hS
        rcases hS with (h | h) | h
        · left; rw [h]; rfl
        · right; left; rw [h]; rfl
        · right; right; rw [h]; rfl
      have HS := Lib.hid hS
      clear hS
      go_upto_region 13 with fail
      go_cut [76] (fun v wx => v = .bool false ∧ w1 = wx)
      case first =>
        rcases hsg with h | h | h
        · have f1 : ((x.toNat : Int) != 43) = false := by simp; omega
          clear h
          go_wp2
          go_meet
          exact ⟨rfl, rfl⟩
        · have f1 : ((x.toNat : Int) != 43) = true := by simp; omega
          have f2 : ((x.toNat : Int) != 45) = false := by simp; omega
          clear h
          go_wp2
          go_meet
          exact ⟨rfl, rfl⟩
        · have f1 : ((x.toNat : Int) != 43) = true := by simp; omega
          have f2 : ((x.toNat : Int) != 45) = true := by simp; omega
          have f3 : ((x.toNat : Int) != 61) = false := by simp; omega
          clear h
          go_wp2
          go_meet
          exact ⟨rfl, rfl⟩
      case rest =>
        obtain ⟨rfl, rfl⟩ := hcut
        clear hsg
        have hf3 := HB.out.frozen 3
        have d3 : w1.cell? ⟨wo.heap.size, 3, none⟩ = some (.int .u8 ((clNames s k).op.toNat : Int)) := HB.out.cell 3
        go_upto_block 6 with fail
        have hB2 : Blk (w1.setCell ⟨wo.heap.size, 3, none⟩ (.int .u8 (x.toNat : Int))) wo.heap.size 63 (cellsOf { clNames s k with op := x }) := HB.out.set_ 3 _
        have hbel2 := HBel.out.setCell (p := ⟨wo.heap.size, 3, none⟩) (Nat.le_refl _) (.int .u8 (x.toNat : Int))
        generalize w1.setCell ⟨wo.heap.size, 3, none⟩ (.int .u8 (x.toNat : Int)) = w2 at hB2 hbel2 ⊢
        have HB2 := Lib.hid hB2; have HBel2 := Lib.hid hbel2
        clear hB2 hbel2 d3 hf3 hget
        have hle3 := letters_le s (at1 + 1) (by omega)
        obtain ⟨at3, h3⟩ : ∃ at3, at3 = at1 + 1 + (letters s (at1 + 1)).length := ⟨_, rfl⟩
        have HA3 := Lib.hid h3
        have h13 : at1 + 1 ≤ at3 ∧ at3 ≤ s.length := by omega
        clear hle3 h3
        go_cut [3] (fun v wx => v = .int .i64 (at3 : Nat) ∧ w2 = wx)
        case first =>
          go_wp2_with fail
          go_loopw [3] (fun v wr => ∃ q : Nat, at1 + 1 ≤ q ∧ q ≤ at3 ∧ v = .int .i64 (q : Nat) ∧ w2 = wr) (fun v _ => s.length - (intOf v).toNat)
          case atStart => exact ⟨at1 + 1, by omega, by omega, by go_num, rfl⟩
          case round =>
            obtain ⟨q, hq1, hq2, rfl, rfl⟩ := hrel
            by_cases hlt : q < s.length
            · have hsz2 : q < (str s).size := hlt
              obtain ⟨y, hy⟩ : ∃ y, y = s.getD q 0 := ⟨_, rfl⟩
              have hget : (str s)[q]'hsz2 = y := (str_get _ _ _).trans hy.symm
              have hyes : isLetter y = true → q + 1 ≤ at3 := fun h => by
                have := letters_more s (at1 + 1) (q - (at1 + 1)) (by have := HA3.out; omega) (by omega) (by rw [show at1 + 1 + (q - (at1 + 1)) = q by omega, ← hy]; exact h)
                have := HA3.out; omega
              have hno : isLetter y = false → q = at3 := fun h => by
                have := letters_end s (at1 + 1) (q - (at1 + 1)) (by have := HA3.out; omega) (.inr (by rw [show at1 + 1 + (q - (at1 + 1)) = q by omega, ← hy]; exact h))
                have := HA3.out; omega
              have HYes := Lib.hid hyes; have HNo := Lib.hid hno
              have hyy : ∀ z : UInt8, y = z ↔ y.toNat = z.toNat := fun z => (UInt8.toNat_inj).symm
              have HY := Lib.hid hyy
              clear hy hyes hno hyy
              by_cases c114 : y.toNat = 114
              · have z114 : ((y.toNat : Int) == 114) = true := by simp; omega
                have hq3 := HYes.out (by rw [(HY.out 114).2 c114]; rfl)
                clear c114
                go_wp2
                go_roundw
                case rel => exact ⟨q + 1, by omega, by omega, by go_num, by first | rfl | trivial⟩
                case measure => simp [intOf]; omega
              have z114 : ((y.toNat : Int) == 114) = false := by simp; omega
              have C114 := Lib.hid c114
              clear c114
              by_cases c119 : y.toNat = 119
              · have z119 : ((y.toNat : Int) == 119) = true := by simp; omega
                have hq3 := HYes.out (by rw [(HY.out 119).2 c119]; rfl)
                clear c119
                go_wp2
                go_roundw
                case rel => exact ⟨q + 1, by omega, by omega, by go_num, by first | rfl | trivial⟩
                case measure => simp [intOf]; omega
              have z119 : ((y.toNat : Int) == 119) = false := by simp; omega
              have C119 := Lib.hid c119
              clear c119
              by_cases c120 : y.toNat = 120
              · have z120 : ((y.toNat : Int) == 120) = true := by simp; omega
                have hq3 := HYes.out (by rw [(HY.out 120).2 c120]; rfl)
                clear c120
                go_wp2
                go_roundw
                case rel => exact ⟨q + 1, by omega, by omega, by go_num, by first | rfl | trivial⟩
                case measure => simp [intOf]; omega
              have z120 : ((y.toNat : Int) == 120) = false := by simp; omega
              have C120 := Lib.hid c120
              clear c120
              by_cases c115 : y.toNat = 115
              · have z115 : ((y.toNat : Int) == 115) = true := by simp; omega
                have hq3 := HYes.out (by rw [(HY.out 115).2 c115]; rfl)
                clear c115
                go_wp2
                go_roundw
                case rel => exact ⟨q + 1, by omega, by omega, by go_num, by first | rfl | trivial⟩
                case measure => simp [intOf]; omega
              have z115 : ((y.toNat : Int) == 115) = false := by simp; omega
              have C115 := Lib.hid c115
              clear c115
              by_cases c116 : y.toNat = 116
              · have z116 : ((y.toNat : Int) == 116) = true := by simp; omega
                have hq3 := HYes.out (by rw [(HY.out 116).2 c116]; rfl)
                clear c116
                go_wp2
                go_roundw
                case rel => exact ⟨q + 1, by omega, by omega, by go_num, by first | rfl | trivial⟩
                case measure => simp [intOf]; omega
              have z116 : ((y.toNat : Int) == 116) = false := by simp; omega
              have C116 := Lib.hid c116
              clear c116
              obtain rfl : q = at3 := HNo.out (by
                unfold isLetter
                have n1 := mt (HY.out 114).1 C114.out; have n2 := mt (HY.out 119).1 C119.out; have n3 := mt (HY.out 120).1 C120.out; have n4 := mt (HY.out 115).1 C115.out; have n5 := mt (HY.out 116).1 C116.out
                simp [n1, n2, n3, n4, n5])
              go_wp2
              go_meet
              exact ⟨rfl, rfl⟩
            · obtain rfl : q = at3 := by omega
              go_wp2
              go_meet
              exact ⟨rfl, rfl⟩
        case rest =>
          obtain ⟨rfl, rfl⟩ := hcut
          have d4 : w2.cell? ⟨wo.heap.size, 4, none⟩ = some (.string (str (clNames s k).ls)) := HB2.out.cell 4
          have f4 := HB2.out.frozen 4
          have hle3 : at3 ≤ (str s).size := h13.2
          have hex : (str s).extract (at1 + 1) at3 = str (letters s (at1 + 1)) := by
            rw [str_extract, HA3.out, Nat.add_sub_cancel_left, letters_take]
          go_upto_region 21 with fail
          have hB3 : Blk (w2.setCell ⟨wo.heap.size, 4, none⟩ (.string (str (letters s (at1 + 1))))) wo.heap.size 63 (cellsOf (clAt s k at1)) := by
            have := HB2.out.set_ 4 (.string (str (letters s (at1 + 1))))
            rw [HX.out] at this
            exact this
          have hbel3 := HBel2.out.setCell (p := ⟨wo.heap.size, 4, none⟩) (Nat.le_refl _) (.string (str (letters s (at1 + 1))))
          generalize w2.setCell ⟨wo.heap.size, 4, none⟩ (.string (str (letters s (at1 + 1)))) = w3 at hB3 hbel3 ⊢
          obtain ⟨c', hc'⟩ : ∃ c', c' = clAt s k at1 := ⟨_, rfl⟩
          rw [← hc'] at hB3
          have d0 : w3.cell? ⟨wo.heap.size, 0, none⟩ = some (.bool c'.u) := hB3.cell 0
          have d1 : w3.cell? ⟨wo.heap.size, 1, none⟩ = some (.bool c'.g) := hB3.cell 1
          have d2 : w3.cell? ⟨wo.heap.size, 2, none⟩ = some (.bool c'.o) := hB3.cell 2
          have d3 : w3.cell? ⟨wo.heap.size, 3, none⟩ = some (.int .u8 (c'.op.toNat : Int)) := hB3.cell 3
          have d4' : w3.cell? ⟨wo.heap.size, 4, none⟩ = some (.string (str c'.ls)) := hB3.cell 4
          have hy : ∀ W : World, ∀ j u, (LC.enc c')[j]? = some u → (W.alloc (.cells #[.bool c'.u, .bool c'.g, .bool c'.o, .int .u8 (c'.op.toNat : Int), .string (str c'.ls)] 63)).cell? ((⟨W.heap.size, 0, none⟩ : Addr).add j) = some u := fun W => new_at rfl
          have HY := Lib.hid hy; have HC := Lib.hid hc'
          have hown3 := HO.out.after hbel3
          have hb3 : Below w.heap.size w w3 := HBl.out.trans (hbel3.mono HBl.out.size)
          have hsz3 := hb3.size
          have hcur : cur.length ≤ 100 := by omega
          clear hy hc' hB3 hbel3 d4 f4 hex
          go_wp2_with (at_builtin; refine ap_one _ rfl _ _ ElC rfl w.heap.size _ cur rfl (hown3.alloc _) _ _ c' rfl ?c1 ?c2 ?c3 ?c4 ?_)
          case c1 => exact fun j u h => h
          case c2 => omega
          case c3 => omega
          case c4 => first | omega | (simp; omega)
          intro A' cc w4 hown4 hg _ _ _
          have hb4 := (hown3.alloc _).belowGrown (hb3.alloc hsz3 _) (by simp; omega) (Nat.le_refl _) hg
          have HO4 := Lib.hid hown4; have HB4 := Lib.hid hb4
          clear hg hown4 hb4 hown3 hb3 d0 d1 d2 d3 d4'
          by_cases e4 : at3 = s.length
          · have e5 : ((at3 : Int) == (((str s).size : Nat) : Int)) = true := by rw [str_size]; simp; omega
            have HRes3 := Lib.hid (show res = (cur ++ [c'], 0, true) from by
              rw [HR.out, HC.out]
              exact clz_done HA.out (by have := HA.out; have := HE1.out; omega) hlt (by rw [← HX.out]; exact HS.out) (by have := HA3.out; omega))
            clear e4
            go_wp2
            go_returns
            rw [HRes3.out]
            exact ⟨_, _, _, rfl, HO4.out, HB4.out⟩
          · have e5 : ((at3 : Int) == (((str s).size : Nat) : Int)) = false := by rw [str_size]; simp; omega
            have hlt4 : at3 < s.length := by omega
            have hsz4 : at3 < (str s).size := hlt4
            obtain ⟨y, hy⟩ : ∃ y, y = s.getD at3 0 := ⟨_, rfl⟩
            have hget : (str s)[at3]'hsz4 = y := (str_get _ _ _).trans hy.symm
            have HY2 := Lib.hid hy
            clear hy e4
            by_cases h44 : y = 44
            · have e6 : ((y.toNat : Int) != 44) = false := by rw [h44]; rfl
              have HRes3 := Lib.hid (show res = comb (cur ++ [c']) (clz f s (at3 + 1)) from by
                rw [HR.out, HC.out]
                exact clz_more HA.out (by have := HA.out; have := HE1.out; omega) hlt (by rw [← HX.out]; exact HS.out) HA3.out hlt4 (by rw [← HY2.out]; exact h44))
              clear h44
              go_wp2
              go_roundw
              case rel => exact ⟨f, at3 + 1, cur ++ [c'], by omega, by go_num, HO4.out, HB4.out, by omega, by simp; omega, HRes3.out⟩
              case measure => simp [intOf]; omega
            · have e6 : ((y.toNat : Int) != 44) = true := by
                have : y.toNat ≠ 44 := fun h => h44 (UInt8.toNat_inj.1 h)
                simp; omega
              have HRes3 := Lib.hid (show res = ([], at3, false) from by
                rw [HR.out]
                exact clz_fail3 HA.out (by have := HA.out; have := HE1.out; omega) hlt (by rw [← HX.out]; exact HS.out) HA3.out hlt4 (by rw [← HY2.out]; exact h44))
              clear h44
              go_wp2
              go_returns
              rw [HRes3.out]
              exact ⟨none, 0, 0, rfl, Own.nil_, HB4.out⟩
end Go.Proofs.YtgegkjjknlfkpaaDoor
