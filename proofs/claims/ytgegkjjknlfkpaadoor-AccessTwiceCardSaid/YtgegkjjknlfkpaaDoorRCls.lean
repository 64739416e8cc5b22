/- The reference's index and Clauses, by contracts. -/
import Derived.Test.YtgegkjjknlfkpaaDoorClsA
import Derived.BigRegion
namespace Go.Proofs.YtgegkjjknlfkpaaDoor
open Go.RowKit
set_option maxRecDepth 100000
def Idx (s : ByteArray) (x : UInt8) (r : Int) : Prop := (x ∈ s.data.toList → 0 ≤ r) ∧ (x ∉ s.data.toList → r = -1)
theorem rindex_any (s : ByteArray) (hs : s.size ≤ 1000) (x : UInt8) (w : World) :
    Calls Tryd.prog 25 #[.string s, .int .u8 (x.toNat : Int)] w fun e w' => ∃ r : Int, e = .returned (.int .i64 r) ∧ Idx s x r ∧ w = w' := by
  have hget0 : ∀ k (h : k < s.size), s.data.toList[k]? = some (s[k]'h) := fun k h => by
    rw [List.getElem?_eq_getElem (by simpa using h)]; rfl
  have HG := Lib.hid hget0; clear hget0
  go_enter Tryd.func25, Tryd.ntmps25
  go_wp2
  go_loop [5] (fun i => ∃ k : Nat, k ≤ s.size ∧ i = .int .i64 (k : Nat) ∧ ∀ j, j < k → s.data.toList[j]? ≠ some x) (fun i => s.size - (intOf i).toNat)
  case atStart => exact ⟨0, by omega, rfl, by omega⟩
  case round =>
    obtain ⟨k, hk, rfl, hall⟩ := hrel
    have HA := Lib.hid hall; clear hall
    by_cases hlt : k < s.size
    · obtain ⟨y, hy⟩ : ∃ y, s[k]'hlt = y := ⟨_, rfl⟩
      have HY := Lib.hid (show s.data.toList[k]? = some y by rw [HG.out k hlt, hy])
      by_cases hxy : y = x
      · have e0 : ((y.toNat : Int) == (x.toNat : Int)) = true := by simp [hxy]
        have HX := Lib.hid hxy; clear hxy
        go_wp2
        go_returns
        exact ⟨_, rfl, ⟨fun _ => by omega, fun h => absurd (by rw [← HX.out]; exact List.mem_of_getElem? HY.out) h⟩, rfl⟩
      · have e0 : ((y.toNat : Int) == (x.toNat : Int)) = false := by
          have : y.toNat ≠ x.toNat := fun h => hxy (UInt8.toNat_inj.1 h)
          simp; omega
        have HX := Lib.hid hxy; clear hxy
        go_wp2
        go_round
        case rel =>
          refine ⟨k + 1, by omega, by go_num, fun j hj h => ?_⟩
          rcases Nat.lt_or_ge j k with h' | h'
          · exact HA.out j h' h
          · obtain rfl : j = k := by omega
            rw [HY.out] at h; exact HX.out (Option.some.inj h)
        case measure => simp [intOf]; omega
    · obtain rfl : k = s.size := by omega
      go_wp2
      go_returns
      refine ⟨_, rfl, ⟨fun h => ?_, fun _ => rfl⟩, rfl⟩
      obtain ⟨j, hj, hx⟩ := List.getElem_of_mem h
      exact absurd (by rw [List.getElem?_eq_getElem hj, hx]) (HA.out j (by simpa using hj))
theorem rindex_yes (s : ByteArray) (hs : s.size ≤ 1000) (x : UInt8) (w : World) (h : x ∈ s.data.toList) :
    Calls Tryd.prog 25 #[.string s, .int .u8 (x.toNat : Int)] w fun e w' => ∃ r : Nat, e = .returned (.int .i64 (r : Nat)) ∧ w = w' := by
  refine (rindex_any s hs x w).mono ?_
  rintro e w' ⟨r, rfl, hr, rfl⟩
  exact ⟨r.toNat, by rw [Int.toNat_of_nonneg (hr.1 h)], rfl⟩
theorem rindex_no (s : ByteArray) (hs : s.size ≤ 1000) (x : UInt8) (w : World) (h : x ∉ s.data.toList) :
    Calls Tryd.prog 25 #[.string s, .int .u8 (x.toNat : Int)] w fun e w' => e = .returned (.int .i64 (-1)) ∧ w = w' := by
  refine (rindex_any s hs x w).mono ?_
  rintro e w' ⟨r, rfl, hr, rfl⟩
  exact ⟨by rw [hr.2 h], rfl⟩
theorem isName_mem (x : UInt8) : isName x = true ↔ x ∈ (⟨#[117, 103, 111, 97]⟩ : ByteArray).data.toList := by simp [isName, or_assoc]
theorem isSign_mem (x : UInt8) : isSign x = true ↔ x ∈ (⟨#[43, 45, 61]⟩ : ByteArray).data.toList := by simp [isSign, or_assoc]
theorem isLetter_mem (x : UInt8) : isLetter x = true ↔ x ∈ (⟨#[114, 119, 120, 115, 116]⟩ : ByteArray).data.toList := by simp [isLetter, or_assoc]
theorem RElC : Elem Tryd.prog 36 43 LC.size 24 := Elem.of (z := .agg #[.bool false, .bool false, .bool false, .int .u8 0, .string ByteArray.empty]) Tryd.underlying36 (by kernel_rfl) rfl
/-- What Clauses returns beside the clauses. -/
def atN (r : List Cl × Nat × Bool) : Int := if r.2.2 = true then -1 else (r.2.1 : Int)
set_option maxHeartbeats 4000000 in
theorem rclauses_any (s : List UInt8) (hs : s.length ≤ 100) (w : World) :
    Calls Tryd.prog 12 #[.string (str s)] w fun e w' => ∃ A m c', e = .returned (.tuple #[.slice A m c', .int .i64 (atN (clz (s.length + 1) s 0))]) ∧ Own w' w.heap.size 43 LC (.slice A m c') (clz (s.length + 1) s 0).1 ∧ Below w.heap.size w w' := by
  generalize hres : clz (s.length + 1) s 0 = res
  have hres0 : res = comb [] (clz (s.length + 1) s 0) := by rw [comb_nil, hres]
  have HRes := Lib.hid hres0
  clear hres hres0
  go_enter Tryd.func12, Tryd.ntmps12
  go_wp2
  go_loopw [4, 5] (fun v2 v3 wr => ∃ (f k : Nat) (cur : List Cl), k ≤ s.length ∧ v3 = .int .i64 (k : Nat) ∧ Own wr w.heap.size 43 LC v2 cur ∧ Below w.heap.size w wr ∧ s.length < f + k ∧ cur.length ≤ k ∧ res = comb cur (clz f s k)) (fun _ v3 _ => s.length - (intOf v3).toNat)
  case atStart => exact ⟨s.length + 1, 0, [], by omega, rfl, Own.nil_, Below.refl _ _, by omega, by simp, HRes.out⟩
  case round =>
    obtain ⟨f, k, cur, hk, rfl, hown, hb, hf, hcl, hr⟩ := hrel
    obtain ⟨wo, rfl⟩ : ∃ wo : World, wo = wr := ⟨_, rfl⟩
    obtain ⟨f, rfl⟩ : ∃ f', f = f' + 1 := ⟨f - 1, by omega⟩
    have HR := Lib.hid hr; have HO := Lib.hid hown; have HBl := Lib.hid hb
    clear hr hown hb
    go_upto_block 2 with fail
    have hb1 : Below wo.heap.size wo (wo.alloc (.cells #[.bool false, .bool false, .bool false, .int .u8 0, .string ByteArray.empty] 43)) := (Below.refl _ _).alloc (Nat.le_refl _) _
    have hB1 : Blk (wo.alloc (.cells #[.bool false, .bool false, .bool false, .int .u8 0, .string ByteArray.empty] 43)) wo.heap.size 43 (cellsOf Cl.zero) := Blk.new wo 43 _
    have HB1 := Lib.hid (And.intro hb1 hB1)
    clear hb1 hB1
    have hnle := names_le s k hk
    go_cut [5, 7] (fun v3 v7 wr => v3 = .int .i64 ((k + (names s k).length : Nat) : Int) ∧ v7 = .bool (tst (k < k + (names s k).length)) ∧ Blk wr wo.heap.size 43 (cellsOf (clNames s k)) ∧ Below wo.heap.size wo wr)
    case first =>
      go_wp2_with fail
      go_loopw [5, 7] (fun v3 v7 wr => ∃ q : Nat, k ≤ q ∧ q ≤ k + (names s k).length ∧ v3 = .int .i64 (q : Nat) ∧ v7 = .bool (tst (k < q)) ∧ Blk wr wo.heap.size 43 (cellsOf (((names s k).take (q - k)).foldl nm Cl.zero)) ∧ Below wo.heap.size wo wr) (fun v3 _ _ => s.length - (intOf v3).toNat)
      case atStart => exact ⟨k, by omega, by omega, rfl, by rw [tst_false (by omega)], by rw [Nat.sub_self]; exact HB1.out.2, HB1.out.1⟩
      case round =>
        obtain ⟨q, hkq, hq, rfl, rfl, hblk, hbel⟩ := hrel
        obtain ⟨w1, rfl⟩ : ∃ w1 : World, w1 = wr := ⟨_, rfl⟩
        have HBlk := Lib.hid hblk; have HBel := Lib.hid hbel
        clear hblk hbel
        have hfin : (∀ h : q < s.length, isName (s.getD q 0) = false) → q = k + (names s k).length := fun h => by
          have := names_end s k (q - k) (by omega) (by
            rw [show k + (q - k) = q by omega]
            rcases Nat.lt_or_ge q s.length with h' | h'
            · right; exact h h'
            · left; exact h')
          omega
        have HFin := Lib.hid hfin
        clear hfin
        by_cases hlt : q < s.length
        · have hsz : q < (str s).size := hlt
          obtain ⟨x, hx⟩ : ∃ x, x = s.getD q 0 := ⟨_, rfl⟩
          have hget : (str s)[q]'hsz = x := (str_get _ _ _).trans hx.symm
          have HX := Lib.hid hx
          clear hx
          cases hN : isName x
          · have HN := Lib.hid hN
            have HM := Lib.hid (show x ∉ (⟨#[117, 103, 111, 97]⟩ : ByteArray).data.toList from fun h => by rw [(isName_mem x).2 h] at hN; cases hN)
            clear hN
            go_wp2_with fail
            refine (rindex_no ⟨#[117, 103, 111, 97]⟩ (by decide) x _ HM.out).mono ?_
            rintro e w' ⟨rfl, rfl⟩
            go_wp2
            go_meet
            have hq' := HFin.out (fun _ => by rw [← HX.out]; exact HN.out)
            have hB := HBlk.out
            rw [show q - k = (names s k).length by omega, List.take_length] at hB
            exact ⟨by rw [← hq'], by rw [← hq'], hB, HBel.out⟩
          · have HN := Lib.hid hN
            have HM := Lib.hid ((isName_mem x).1 hN)
            clear hN
            go_wp2_with fail
            refine (rindex_yes ⟨#[117, 103, 111, 97]⟩ (by decide) x _ HM.out).mono ?_
            rintro e w' ⟨ri, rfl, rfl⟩
            go_wp2
            obtain ⟨hmore1, hmore2⟩ := names_more s k (q - k) (by omega) (by omega) (by rw [show k + (q - k) = q by omega, ← HX.out]; exact HN.out)
            rw [show k + (q - k) = q by omega, ← HX.out] at hmore2
            generalize hc0 : ((names s k).take (q - k)).foldl nm Cl.zero = c0 at hmore2
            have hB := HBlk.out
            rw [hc0] at hB
            have HMore := Lib.hid (And.intro hmore1 hmore2)
            have HB2 := Lib.hid hB
            obtain ⟨U, hU⟩ : ∃ U, U = (x == 117 || x == 97) := ⟨_, rfl⟩
            obtain ⟨G, hG⟩ : ∃ G, G = (x == 103 || x == 97) := ⟨_, rfl⟩
            obtain ⟨O, hO⟩ : ∃ O, O = (x == 111 || x == 97) := ⟨_, rfl⟩
            have HUGO := Lib.hid (And.intro hU (And.intro hG hO))
            clear hB hmore1 hmore2 hc0 hU hG hO
            go_loopw [8] (fun v wr => ∃ i : Nat, i ≤ 3 ∧ v = .int .i64 (i : Nat) ∧ Blk wr wo.heap.size 43 (cellsOf (nmK c0 U G O i)) ∧ Below wo.heap.size wo wr) (fun v _ => 3 - (intOf v).toNat)
            case atStart => exact ⟨0, by omega, rfl, by rw [nmK_0]; exact HB2.out, HBel.out⟩
            case round =>
              obtain ⟨i, hi, hv, hB, hbl⟩ := hrel
              have c0f := hB.frozen 0; have c1f := hB.frozen 1; have c2f := hB.frozen 2
              have HB := Lib.hid hB; have HBL := Lib.hid hbl
              rcases (show i = 0 ∨ i = 1 ∨ i = 2 ∨ i = 3 by omega) with rfl | rfl | rfl | rfl
              · have e0 : wr.cell? ⟨wo.heap.size, 0, none⟩ = some (.bool c0.u) := hB.cell 0
                clear hB hbl
                rw [show ((0 : Nat) : Int) = 0 from rfl] at hv
                subst hv
                have done : ∀ b : Bool, (c0.u || U) = b → ∃ i' : Nat, i' ≤ 3 ∧ Value.int .i64 1 = .int .i64 (i' : Nat) ∧ Blk ((wr.setCell ⟨wo.heap.size, 0, none⟩ (.bool b)).drew) wo.heap.size 43 (cellsOf (nmK c0 U G O i')) ∧ Below wo.heap.size wo ((wr.setCell ⟨wo.heap.size, 0, none⟩ (.bool b)).drew) := fun b hb => by
                  refine ⟨0 + 1, by omega, by rfl, ?_, (HBL.out.setCell (Nat.le_refl _) _).drew⟩
                  rw [show cellsOf (nmK c0 U G O (0 + 1)) = (cellsOf (nmK c0 U G O 0)).setIfInBounds 0 (.bool b) by simp [cellsOf, nmK, ← hb]]
                  exact (HB.out.set_ 0 _).drew
                have Done := Lib.hid done; clear done
                cases hu : c0.u
                · rw [hu] at e0
                  by_cases h1 : x.toNat = 117
                  · have z1 : ((x.toNat : Int) == 117) = true := by simp; omega
                    have cst : ∀ h, ((⟨#[117, 103, 111]⟩ : ByteArray)[0]'h).toNat = 117 := fun _ => rfl
                    have HL := Lib.hid (show (c0.u || U) = true by rw [hu, HUGO.out.1, show x = 117 from UInt8.toNat_inj.1 h1]; rfl)
                    clear h1 hu
                    go_wp2
                    go_region
                    go_wp2
                    go_roundw
                    case rel => exact Done.out _ HL.out
                    case measure => simp [intOf]
                  have z1 : ((x.toNat : Int) == 117) = false := by simp; omega
                  have cst : ∀ h, ((⟨#[117, 103, 111]⟩ : ByteArray)[0]'h).toNat = 117 := fun _ => rfl
                  by_cases h2 : x.toNat = 97
                  · have z2 : ((x.toNat : Int) == 97) = true := by simp; omega
                    have HL := Lib.hid (show (c0.u || U) = true by rw [hu, HUGO.out.1, show x = 97 from UInt8.toNat_inj.1 h2]; rfl)
                    clear h1 h2 hu
                    go_wp2
                    go_region
                    go_wp2
                    go_roundw
                    case rel => exact Done.out _ HL.out
                    case measure => simp [intOf]
                  · have z2 : ((x.toNat : Int) == 97) = false := by simp; omega
                    have HL := Lib.hid (show (c0.u || U) = false by
                      have n1 : ¬ x = 117 := fun h => h1 (by rw [h]; rfl)
                      have n2 : ¬ x = 97 := fun h => h2 (by rw [h]; rfl)
                      rw [hu, HUGO.out.1]; simp [n1, n2])
                    clear h1 h2 hu
                    go_wp2
                    go_region
                    go_wp2
                    go_roundw
                    case rel => exact Done.out _ HL.out
                    case measure => simp [intOf]
                · rw [hu] at e0
                  have HL := Lib.hid (show (c0.u || U) = true by rw [hu]; rfl)
                  clear hu
                  go_wp2
                  go_region
                  go_wp2
                  go_roundw
                  case rel => exact Done.out _ HL.out
                  case measure => simp [intOf]
              · have e0 : wr.cell? ⟨wo.heap.size, 1, none⟩ = some (.bool c0.g) := hB.cell 1
                clear hB hbl
                rw [show ((1 : Nat) : Int) = 1 from rfl] at hv
                subst hv
                have done : ∀ b : Bool, (c0.g || G) = b → ∃ i' : Nat, i' ≤ 3 ∧ Value.int .i64 2 = .int .i64 (i' : Nat) ∧ Blk ((wr.setCell ⟨wo.heap.size, 1, none⟩ (.bool b)).drew) wo.heap.size 43 (cellsOf (nmK c0 U G O i')) ∧ Below wo.heap.size wo ((wr.setCell ⟨wo.heap.size, 1, none⟩ (.bool b)).drew) := fun b hb => by
                  refine ⟨1 + 1, by omega, by rfl, ?_, (HBL.out.setCell (Nat.le_refl _) _).drew⟩
                  rw [show cellsOf (nmK c0 U G O (1 + 1)) = (cellsOf (nmK c0 U G O 1)).setIfInBounds 1 (.bool b) by simp [cellsOf, nmK, ← hb]]
                  exact (HB.out.set_ 1 _).drew
                have Done := Lib.hid done; clear done
                cases hu : c0.g
                · rw [hu] at e0
                  by_cases h1 : x.toNat = 103
                  · have z1 : ((x.toNat : Int) == 103) = true := by simp; omega
                    have cst : ∀ h, ((⟨#[117, 103, 111]⟩ : ByteArray)[1]'h).toNat = 103 := fun _ => rfl
                    have HL := Lib.hid (show (c0.g || G) = true by rw [hu, HUGO.out.2.1, show x = 103 from UInt8.toNat_inj.1 h1]; rfl)
                    clear h1 hu
                    go_wp2
                    go_region
                    go_wp2
                    go_roundw
                    case rel => exact Done.out _ HL.out
                    case measure => simp [intOf]
                  have z1 : ((x.toNat : Int) == 103) = false := by simp; omega
                  have cst : ∀ h, ((⟨#[117, 103, 111]⟩ : ByteArray)[1]'h).toNat = 103 := fun _ => rfl
                  by_cases h2 : x.toNat = 97
                  · have z2 : ((x.toNat : Int) == 97) = true := by simp; omega
                    have HL := Lib.hid (show (c0.g || G) = true by rw [hu, HUGO.out.2.1, show x = 97 from UInt8.toNat_inj.1 h2]; rfl)
                    clear h1 h2 hu
                    go_wp2
                    go_region
                    go_wp2
                    go_roundw
                    case rel => exact Done.out _ HL.out
                    case measure => simp [intOf]
                  · have z2 : ((x.toNat : Int) == 97) = false := by simp; omega
                    have HL := Lib.hid (show (c0.g || G) = false by
                      have n1 : ¬ x = 103 := fun h => h1 (by rw [h]; rfl)
                      have n2 : ¬ x = 97 := fun h => h2 (by rw [h]; rfl)
                      rw [hu, HUGO.out.2.1]; simp [n1, n2])
                    clear h1 h2 hu
                    go_wp2
                    go_region
                    go_wp2
                    go_roundw
                    case rel => exact Done.out _ HL.out
                    case measure => simp [intOf]
                · rw [hu] at e0
                  have HL := Lib.hid (show (c0.g || G) = true by rw [hu]; rfl)
                  clear hu
                  go_wp2
                  go_region
                  go_wp2
                  go_roundw
                  case rel => exact Done.out _ HL.out
                  case measure => simp [intOf]
              · have e0 : wr.cell? ⟨wo.heap.size, 2, none⟩ = some (.bool c0.o) := hB.cell 2
                clear hB hbl
                rw [show ((2 : Nat) : Int) = 2 from rfl] at hv
                subst hv
                have done : ∀ b : Bool, (c0.o || O) = b → ∃ i' : Nat, i' ≤ 3 ∧ Value.int .i64 3 = .int .i64 (i' : Nat) ∧ Blk ((wr.setCell ⟨wo.heap.size, 2, none⟩ (.bool b)).drew) wo.heap.size 43 (cellsOf (nmK c0 U G O i')) ∧ Below wo.heap.size wo ((wr.setCell ⟨wo.heap.size, 2, none⟩ (.bool b)).drew) := fun b hb => by
                  refine ⟨2 + 1, by omega, by rfl, ?_, (HBL.out.setCell (Nat.le_refl _) _).drew⟩
                  rw [show cellsOf (nmK c0 U G O (2 + 1)) = (cellsOf (nmK c0 U G O 2)).setIfInBounds 2 (.bool b) by simp [cellsOf, nmK, ← hb]]
                  exact (HB.out.set_ 2 _).drew
                have Done := Lib.hid done; clear done
                cases hu : c0.o
                · rw [hu] at e0
                  by_cases h1 : x.toNat = 111
                  · have z1 : ((x.toNat : Int) == 111) = true := by simp; omega
                    have cst : ∀ h, ((⟨#[117, 103, 111]⟩ : ByteArray)[2]'h).toNat = 111 := fun _ => rfl
                    have HL := Lib.hid (show (c0.o || O) = true by rw [hu, HUGO.out.2.2, show x = 111 from UInt8.toNat_inj.1 h1]; rfl)
                    clear h1 hu
                    go_wp2
                    go_region
                    go_wp2
                    go_roundw
                    case rel => exact Done.out _ HL.out
                    case measure => simp [intOf]
                  have z1 : ((x.toNat : Int) == 111) = false := by simp; omega
                  have cst : ∀ h, ((⟨#[117, 103, 111]⟩ : ByteArray)[2]'h).toNat = 111 := fun _ => rfl
                  by_cases h2 : x.toNat = 97
                  · have z2 : ((x.toNat : Int) == 97) = true := by simp; omega
                    have HL := Lib.hid (show (c0.o || O) = true by rw [hu, HUGO.out.2.2, show x = 97 from UInt8.toNat_inj.1 h2]; rfl)
                    clear h1 h2 hu
                    go_wp2
                    go_region
                    go_wp2
                    go_roundw
                    case rel => exact Done.out _ HL.out
                    case measure => simp [intOf]
                  · have z2 : ((x.toNat : Int) == 97) = false := by simp; omega
                    have HL := Lib.hid (show (c0.o || O) = false by
                      have n1 : ¬ x = 111 := fun h => h1 (by rw [h]; rfl)
                      have n2 : ¬ x = 97 := fun h => h2 (by rw [h]; rfl)
                      rw [hu, HUGO.out.2.2]; simp [n1, n2])
                    clear h1 h2 hu
                    go_wp2
                    go_region
                    go_wp2
                    go_roundw
                    case rel => exact Done.out _ HL.out
                    case measure => simp [intOf]
                · rw [hu] at e0
                  have HL := Lib.hid (show (c0.o || O) = true by rw [hu]; rfl)
                  clear hu
                  go_wp2
                  go_region
                  go_wp2
                  go_roundw
                  case rel => exact Done.out _ HL.out
                  case measure => simp [intOf]
              · rw [show ((3 : Nat) : Int) = 3 from rfl] at hv
                subst hv
                clear hB hbl c0f c1f c2f
                have HB3 := Lib.hid (show Blk wr wo.heap.size 43 (cellsOf (nm c0 x)) by
                  have := HB.out
                  rwa [HUGO.out.1, HUGO.out.2.1, HUGO.out.2.2, nmK_3] at this)
                go_wp2
                go_roundw
                case rel =>
                  refine ⟨q + 1, by omega, by have := HMore.out.1; omega, by go_num, by rw [tst_true (by omega)], ?_, HBL.out⟩
                  rw [show q + 1 - k = q - k + 1 by omega, HMore.out.2]
                  exact HB3.out
                case measure => simp [intOf]; omega
        · have hq' := HFin.out (fun h => absurd h hlt)
          have HQ' := Lib.hid hq'; clear hq'
          go_wp2
          go_meet
          have hB := HBlk.out
          rw [show q - k = (names s k).length by have := HQ'.out; omega, List.take_length] at hB
          exact ⟨by rw [← HQ'.out], by rw [← HQ'.out], hB, HBel.out⟩
    case rest =>
      obtain ⟨h3, h7, hB, hbel⟩ := hcut
      obtain ⟨w1, rfl⟩ : ∃ w1 : World, w1 = wc := ⟨_, rfl⟩
      have HB := Lib.hid hB; have HBel := Lib.hid hbel
      obtain ⟨at1, h1⟩ : ∃ at1, at1 = k + (names s k).length := ⟨_, rfl⟩
      rw [← h1] at h3 h7
      subst h3; subst h7
      have HA := Lib.hid h1
      have hkat : k ≤ at1 ∧ at1 ≤ s.length := by omega
      have hany : Below w.heap.size w w1 := HBl.out.trans (hbel.mono HBl.out.size)
      have HAny := Lib.hid hany
      clear hB hbel h1 hany
      have hfail : ((names s k).length = 0 ∨ s.length ≤ at1 ∨ isSign (s.getD at1 0) = false) → res = ([], at1, false) := fun h => by
        rw [HR.out, HA.out]; rw [HA.out] at h; exact clz_fail1 h
      have HFail := Lib.hid hfail
      clear hfail
      by_cases e1 : at1 = k
      · have HRes2 := Lib.hid (HFail.out (.inl (by have := HA.out; omega)))
        have e0 : tst (k < at1) = false := tst_false (by omega)
        clear e1
        go_wp2
        go_returns
        rw [HRes2.out]
        exact ⟨none, 0, 0, rfl, Own.nil_, HAny.out⟩
      have e0 : tst (k < at1) = true := tst_true (by omega)
      by_cases e2 : at1 = s.length
      · have HRes2 := Lib.hid (HFail.out (.inr (.inl (by omega))))
        have e3 : ((at1 : Int) == (((str s).size : Nat) : Int)) = true := by rw [str_size]; simp; omega
        clear e1 e2
        go_wp2
        go_returns
        rw [HRes2.out]
        exact ⟨none, 0, 0, rfl, Own.nil_, HAny.out⟩
      have e3 : ((at1 : Int) == (((str s).size : Nat) : Int)) = false := by rw [str_size]; simp; omega
      have hlt : at1 < s.length := by omega
      have hsz : at1 < (str s).size := hlt
      obtain ⟨x, hx⟩ : ∃ x, x = s.getD at1 0 := ⟨_, rfl⟩
      have hget : (str s)[at1]'hsz = x := (str_get _ _ _).trans hx.symm
      have HX := Lib.hid hx
      have HE1 := Lib.hid e1
      clear hx e1 e2
      cases hS : isSign x
      · have HRes2 := Lib.hid (HFail.out (.inr (.inr (by rw [← HX.out]; exact hS))))
        have HM := Lib.hid (show x ∉ (⟨#[43, 45, 61]⟩ : ByteArray).data.toList from fun h => by rw [(isSign_mem x).2 h] at hS; cases hS)
        clear hS
        go_wp2_with fail
        refine (rindex_no ⟨#[43, 45, 61]⟩ (by decide) x _ HM.out).mono ?_
        rintro e w' ⟨rfl, rfl⟩
        go_wp2
        go_returns
        rw [HRes2.out]
        exact ⟨none, 0, 0, rfl, Own.nil_, HAny.out⟩
      have HS := Lib.hid hS
      have HM := Lib.hid ((isSign_mem x).1 hS)
      clear hS
      have hf3 := HB.out.frozen 3
      have d3 : w1.cell? ⟨wo.heap.size, 3, none⟩ = some (.int .u8 ((clNames s k).op.toNat : Int)) := HB.out.cell 3
      go_wp2_with fail
      refine (rindex_yes ⟨#[43, 45, 61]⟩ (by decide) x _ HM.out).mono ?_
      rintro e w' ⟨ri, rfl, rfl⟩
      have er : decide ((ri : Int) < 0) = false := by simp
      go_upto_block 6 with fail
      have hB2 : Blk (w1.setCell ⟨wo.heap.size, 3, none⟩ (.int .u8 (x.toNat : Int))) wo.heap.size 43 (cellsOf { clNames s k with op := x }) := HB.out.set_ 3 _
      have hbel2 := HBel.out.setCell (p := ⟨wo.heap.size, 3, none⟩) (Nat.le_refl _) (.int .u8 (x.toNat : Int))
      generalize w1.setCell ⟨wo.heap.size, 3, none⟩ (.int .u8 (x.toNat : Int)) = w2 at hB2 hbel2 ⊢
      have HB2 := Lib.hid hB2; have HBel2 := Lib.hid hbel2
      clear hB2 hbel2 d3 hf3 hget
      have hle3 := letters_le s (at1 + 1) (by omega)
      obtain ⟨at3, h3⟩ : ∃ at3, at3 = at1 + 1 + (letters s (at1 + 1)).length := ⟨_, rfl⟩
      have HA3 := Lib.hid h3
      have h13 : at1 + 1 ≤ at3 ∧ at3 ≤ s.length := by omega
      clear hle3 h3
      go_cut [5] (fun v wx => v = .int .i64 (at3 : Nat) ∧ w2 = wx)
      case first =>
        go_wp2_with fail
        go_loopw [5] (fun v wr => ∃ q : Nat, at1 + 1 ≤ q ∧ q ≤ at3 ∧ v = .int .i64 (q : Nat) ∧ w2 = wr) (fun v _ => s.length - (intOf v).toNat)
        case atStart => exact ⟨at1 + 1, by omega, by omega, by go_num, rfl⟩
        case round =>
          obtain ⟨q, hq1, hq2, rfl, rfl⟩ := hrel
          by_cases hlt : q < s.length
          · have hsz2 : q < (str s).size := hlt
            obtain ⟨y, hy⟩ : ∃ y, y = s.getD q 0 := ⟨_, rfl⟩
            have hget : (str s)[q]'hsz2 = y := (str_get _ _ _).trans hy.symm
            have hyes : isLetter y = true → q + 1 ≤ at3 := fun h => by
              have := letters_more s (at1 + 1) (q - (at1 + 1)) (by have := HA3.out; omega) (by omega) (by rw [show at1 + 1 + (q - (at1 + 1)) = q by omega, ← hy]; exact h)
              have := HA3.out; omega
            have hno : isLetter y = false → q = at3 := fun h => by
              have := letters_end s (at1 + 1) (q - (at1 + 1)) (by have := HA3.out; omega) (.inr (by rw [show at1 + 1 + (q - (at1 + 1)) = q by omega, ← hy]; exact h))
              have := HA3.out; omega
            clear hy
            cases hL : isLetter y
            · have hqq := hno hL
              have HM2 := Lib.hid (show y ∉ (⟨#[114, 119, 120, 115, 116]⟩ : ByteArray).data.toList from fun h => by rw [(isLetter_mem y).2 h] at hL; cases hL)
              clear hL hyes hno
              subst hqq
              go_wp2_with fail
              refine (rindex_no ⟨#[114, 119, 120, 115, 116]⟩ (by decide) y _ HM2.out).mono ?_
              rintro e w' ⟨rfl, rfl⟩
              go_wp2
              go_meet
              exact ⟨rfl, rfl⟩
            · have hqq := hyes hL
              have HM2 := Lib.hid ((isLetter_mem y).1 hL)
              clear hL hyes hno
              go_wp2_with fail
              refine (rindex_yes ⟨#[114, 119, 120, 115, 116]⟩ (by decide) y _ HM2.out).mono ?_
              rintro e w' ⟨rj, rfl, rfl⟩
              go_wp2
              go_roundw
              case rel => exact ⟨q + 1, by omega, by omega, by go_num, by first | rfl | trivial⟩
              case measure => simp [intOf]; omega
          · obtain rfl : q = at3 := by omega
            go_wp2
            go_meet
            exact ⟨rfl, rfl⟩
      case rest =>
        obtain ⟨rfl, rfl⟩ := hcut
        have d4 : w2.cell? ⟨wo.heap.size, 4, none⟩ = some (.string (str (clNames s k).ls)) := HB2.out.cell 4
        have f4 := HB2.out.frozen 4
        have hle3 : at3 ≤ (str s).size := h13.2
        have hex : (str s).extract (at1 + 1) at3 = str (letters s (at1 + 1)) := by
          rw [str_extract, HA3.out, Nat.add_sub_cancel_left, letters_take]
        go_upto_region 20 with fail
        have hB3 : Blk (w2.setCell ⟨wo.heap.size, 4, none⟩ (.string (str (letters s (at1 + 1))))) wo.heap.size 43 (cellsOf (clAt s k at1)) := by
          have := HB2.out.set_ 4 (.string (str (letters s (at1 + 1))))
          rw [HX.out] at this
          exact this
        have hbel3 := HBel2.out.setCell (p := ⟨wo.heap.size, 4, none⟩) (Nat.le_refl _) (.string (str (letters s (at1 + 1))))
        generalize w2.setCell ⟨wo.heap.size, 4, none⟩ (.string (str (letters s (at1 + 1)))) = w3 at hB3 hbel3 ⊢
        obtain ⟨c', hc'⟩ : ∃ c', c' = clAt s k at1 := ⟨_, rfl⟩
        rw [← hc'] at hB3
        have d0 : w3.cell? ⟨wo.heap.size, 0, none⟩ = some (.bool c'.u) := hB3.cell 0
        have d1 : w3.cell? ⟨wo.heap.size, 1, none⟩ = some (.bool c'.g) := hB3.cell 1
        have d2 : w3.cell? ⟨wo.heap.size, 2, none⟩ = some (.bool c'.o) := hB3.cell 2
        have d3 : w3.cell? ⟨wo.heap.size, 3, none⟩ = some (.int .u8 (c'.op.toNat : Int)) := hB3.cell 3
        have d4' : w3.cell? ⟨wo.heap.size, 4, none⟩ = some (.string (str c'.ls)) := hB3.cell 4
        have HC := Lib.hid hc'
        have hown3 := HO.out.after hbel3
        have hb3 : Below w.heap.size w w3 := HBl.out.trans (hbel3.mono HBl.out.size)
        have hsz3 := hb3.size
        have hcur : cur.length ≤ 100 := by omega
        clear hc' hB3 hbel3 d4 f4 hex
        go_wp2_with (at_builtin; refine ap_one _ rfl _ _ RElC rfl w.heap.size _ cur rfl (hown3.alloc _) ⟨w3.heap.size, 0, none⟩ _ c' rfl ?c1 ?c2 ?c3 ?c4 ?_)
        case c1 => exact fun j u h => h
        case c2 => omega
        case c3 => omega
        case c4 => first | omega | (simp; omega)
        intro A' cc w4 hown4 hg _ _ _
        have hb4 := (hown3.alloc _).belowGrown (hb3.alloc hsz3 _) (by simp; omega) (Nat.le_refl _) hg
        have HO4 := Lib.hid hown4; have HB4 := Lib.hid hb4
        clear hg hown4 hb4 hown3 hb3 d0 d1 d2 d3 d4'
        by_cases e4 : at3 = s.length
        · have e5 : ((at3 : Int) == (((str s).size : Nat) : Int)) = true := by rw [str_size]; simp; omega
          have HRes3 := Lib.hid (show res = (cur ++ [c'], 0, true) from by
            rw [HR.out, HC.out]
            exact clz_done HA.out (by have := HA.out; have := HE1.out; omega) hlt (by rw [← HX.out]; exact HS.out) (by have := HA3.out; omega))
          clear e4
          go_wp2
          go_returns
          rw [HRes3.out]
          exact ⟨_, _, _, rfl, HO4.out, HB4.out⟩
        · have e5 : ((at3 : Int) == (((str s).size : Nat) : Int)) = false := by rw [str_size]; simp; omega
          have hlt4 : at3 < s.length := by omega
          have hsz4 : at3 < (str s).size := hlt4
          obtain ⟨y, hy⟩ : ∃ y, y = s.getD at3 0 := ⟨_, rfl⟩
          have hget : (str s)[at3]'hsz4 = y := (str_get _ _ _).trans hy.symm
          have HY2 := Lib.hid hy
          clear hy e4
          by_cases h44 : y = 44
          · have e6 : ((y.toNat : Int) != 44) = false := by rw [h44]; rfl
            have HRes3 := Lib.hid (show res = comb (cur ++ [c']) (clz f s (at3 + 1)) from by
              rw [HR.out, HC.out]
              exact clz_more HA.out (by have := HA.out; have := HE1.out; omega) hlt (by rw [← HX.out]; exact HS.out) HA3.out hlt4 (by rw [← HY2.out]; exact h44))
            clear h44
            go_wp2
            go_roundw
            case rel => exact ⟨f, at3 + 1, cur ++ [c'], by omega, by go_num, HO4.out, HB4.out, by omega, by simp; omega, HRes3.out⟩
            case measure => simp [intOf]; omega
          · have e6 : ((y.toNat : Int) != 44) = true := by
              have : y.toNat ≠ 44 := fun h => h44 (UInt8.toNat_inj.1 h)
              simp; omega
            have HRes3 := Lib.hid (show res = ([], at3, false) from by
              rw [HR.out]
              exact clz_fail3 HA.out (by have := HA.out; have := HE1.out; omega) hlt (by rw [← HX.out]; exact HS.out) HA3.out hlt4 (by rw [← HY2.out]; exact h44))
            clear h44
            go_wp2
            go_returns
            rw [HRes3.out]
            exact ⟨none, 0, 0, rfl, Own.nil_, HB4.out⟩
end Go.Proofs.YtgegkjjknlfkpaaDoor
