/- The walk of the law CodecKeeps: results may be changed, arguments are not kept. -/
import Derived.Test.YtogagcdlkhinjaaOneSig
import Derived.Test.YtogagcdlkhinjaaCodecWritesWalk
namespace Go.Proofs.Ytogagcdlkhinjaa
open Go.RowKit
set_option maxRecDepth 100000
theorem Own.grown_ {α : Type} {L : Lay α} {w w' : World} {base : Nat} {e : TypeId} {v : Value} {l : List α} {row : Option Nat} (h : Own w base e L v l) (hg : w.grownBy w' row) (hne : ∀ k, v.ownBlock = some k → row = some k → False) : Own w' base e L v l :=
  h.grown hg (by
    cases hv : v.ownBlock with
    | none => exact .inl rfl
    | some k => exact .inr fun he => hne k hv he.symm)
theorem Keep.of_belowB {B : Nat} {w w' : World} (h : Below B w w') : Keep (fun k => B ≤ k) w w' := ⟨h.os, h.tape, h.output, h.size, fun k _ hn => h.block k (by omega)⟩
theorem b8_succ (x : UInt8) : b8 (x + 1) = .int .u8 (((x.toNat : Int) + 1) % 256) := by
  have : (x + 1).toNat = (x.toNat + 1) % 256 := by rw [UInt8.toNat_add]; rfl
  unfold b8; rw [this]; congr 1
set_option maxHeartbeats 2000000 in
theorem codecKeeps_walk (A : Option Addr) (n c : Nat) (l : List V) (A2 : Option Addr) (n2 c2 : Nat) (b : List UInt8) (w : World) (hr : Rd w w.heap.size LV A n l) (hok : ∀ x ∈ l, x.Ok) (hn : n ≤ 9223372036854775807) (hr2 : Rd w w.heap.size L8 A2 n2 b) (hc2 : n2 ≤ c2) (hm2 : c2 ≤ 9223372036854775807) :
    Calls Try.prog 6 #[.slice A n c, .slice A2 n2 c2] w fun e w' => e = .returned (.bool true) ∧ Below w.heap.size w w' := by
  have hsl : ∀ v ∈ l, v.s.length ≤ 9223372036854775807 := fun v hv => by have := (hok v hv).s1; unfold maxLen at this; omega
  have hcut := cut_ok l hok
  have hlen : ((l.take 40).map cutV).length ≤ 40 := by simp; omega
  have hr2' := hr2.upto (k := min n2 200) (Nat.min_le_left _ _)
  generalize hk : min n2 200 = k2 at hr2'
  generalize b.take k2 = b2 at hr2'
  have hk2 : k2 ≤ 200 ∧ k2 ≤ n2 := by omega
  have hmin2 : min (n2 : Int) 200 = ((k2 : Nat) : Int) := by omega
  have hkc : (k2 : Int) ≤ (c2 : Int) := by omega
  have hk0 : (0 : Int) ≤ (k2 : Int) := by omega
  clear hk hr2
  have hsh : ∀ W, Below w.heap.size w W → Calls Try.prog 16 #[.slice A n c] W fun e w' => ∃ A' m c', e = .returned (.slice A' m c') ∧ Own w' W.heap.size 51 LV (.slice A' m c') ((l.take 40).map cutV) ∧ Below W.heap.size W w' := fun W hW => short_any A n c l W (hr.after hW) hn hsl
  generalize (l.take 40).map cutV = l1 at hcut hlen hsh
  have HSH := Lib.hid hsh; have HC := Lib.hid hcut; have HL := Lib.hid hlen; have HR2 := Lib.hid hr2'
  clear hsl hcut hsh hlen hr2' hok hr
  go_enter Try.func6, Try.ntmps6
  go_wp2
  have k0 : Below w.heap.size w w.drew := (Below.refl _ _).drew
  have k1 : ∀ o, Below w.heap.size w (w.alloc o).drew := fun o => ((Below.refl _ _).alloc (Nat.le_refl _) o).drew
  have o1 : ∀ W : World, ∀ base, base ≤ W.heap.size → Own (W.alloc (.cells #[] 5)) base 5 L8 (.slice (some ⟨W.heap.size, 0, none⟩) 0 0) [] := fun W base hb => new_own (l := []) hb (Nat.zero_le _) rfl
  have K1 := Lib.hid k1; have O1 := Lib.hid o1
  clear k1 o1
  go_cut [0, 1] (fun v0 v1 W => ∃ A1 n1 c1 A6 c6, v0 = .slice A1 n1 c1 ∧ v1 = .slice A6 k2 c6 ∧ Own W w.heap.size 51 LV (.slice A1 n1 c1) l1 ∧ Own W w.heap.size 5 L8 (.slice A6 k2 c6) b2 ∧ Below w.heap.size w W)
  case first =>
    go_region_held3 (fun W => Below w.heap.size w W)
      (first
        | assumption
        | exact k0
        | exact K1.out _
        | exact Below.trans (by assumption) (Below.mono hb1 (Below.size (by assumption)))
        | exact Below.alloc (by assumption) (Below.size (by assumption)) _
        | exact hb6)
      (first
        | (go_at_call 16; refine (HSH.out _ (by assumption)).mono ?_; rintro e w1 ⟨A1, n1, c1, rfl, hown1, hb1⟩)
        | (refine step_ap _ (by rfl) _ _ El8 (by rfl) w.heap.size (.slice (some ⟨_, 0, none⟩) 0 0) [] (by rfl) ?_ w.heap.size A2 k2 c2 b2 (by rfl) (HR2.out.below (by assumption)) (by simp; omega) (by simp; omega) (Below.size (by assumption)) ?_; (first | exact O1.out w1 w.heap.size hb1.size | exact (O1.out w w.heap.size (Nat.le_refl _)).drew.after hb1); intro A6 c6 w6 hown6 hg6 _ _ _; have hb6 : Below w.heap.size w w6 := Below.grown (by assumption) hg6 (Below.size (by assumption)) (fun k hk => by have hx : w.heap.size ≤ w1.heap.size := Nat.le_trans (by simp) hb1.size; simp [Value.ownBlock] at hk; omega)))
    all_goals
      go_wp2_with fail
      go_meet
      first
        | exact ⟨_, _, _, _, _, rfl, rfl, ((hown1.alloc _).grown_ hg6 (fun k hk e => by have := (hown1.lt k hk).2; simp [Value.ownBlock] at e; omega)).mono (by simp), by simpa using hown6, hb6⟩
        | exact ⟨_, _, _, _, _, rfl, rfl, (hown1.grown_ hg6 (fun k hk e => by have := (hown1.lt k hk).1; simp [Value.ownBlock] at e; simp at this; omega)).mono (by simp), by simpa using hown6, hb6⟩
  case rest =>
    obtain ⟨A1, n1, c1, A6, c6, rfl, rfl, hown1, hown6, hb1⟩ := hcut
    have hn1 : n1 ≤ 40 := by have := hown1.cap.1; have := HL.out; omega
    have hb2l : b2.length = k2 := HR2.out.len
    have HO1 := Lib.hid hown1; have HO6 := Lib.hid hown6; have HB2 := Lib.hid hb2l
    clear hown1 hown6 hb2l
    go_wp2_with fail
    refine (new_any wc).mono ?_
    rintro e w2 ⟨rfl, hw2, hb2⟩
    have hs2 := hw2.blk.lt
    go_wp2_with fail
    refine (writeAll_any wc.heap.size wc.heap.size _ [] 0 A1 n1 c1 l1 w2 hw2 (HO1.out.rd.after hb2) (fun h ad had hx => by
      have := HO1.out.rd.lt h ad had
      rcases hx with hx | hx
      · omega
      · cases hx) hn1 HC.out (by simp)).mono ?_
    rintro e w3 h3
    have hb3 := WPost.belowB hb2 hw2 h3 (Nat.le_refl _)
    obtain ⟨rfl, v3, hw3, _, _⟩ := h3
    have hfl : (l1.foldl wstep ([], 0)).1.length ≤ 10000 := by
      have := foldl_wstep_len l1 ([], 0) fun v hv => (HC.out v hv).2
      have h2 := HL.out
      simp at this; omega
    generalize l1.foldl wstep ([], 0) = fin at hw3 hfl
    obtain ⟨fo, ff⟩ := fin
    simp only at hw3 hfl
    go_wp2_with fail
    refine (bytes_any _ _ _ _ _ w3 hw3 (by omega)).mono ?_
    rintro e w4 ⟨A4, m4, c4, rfl, hown4, hb4⟩
    have hw4 := hw3.after hb4
    have hb34 : Below wc.heap.size wc w4 := hb3.trans (hb4.mono hb3.size)
    have hcv4 : (convert 22 9 (.slice A4 m4 c4)).run Try.prog w4 = .ok (.string (str (gives fo ff))) w4 := run_conv8 Try.underlying22 Try.underlying5 Try.underlying9 hown4.rd
    have hm4 : m4 ≤ 10000 := by have := hown4.cap.1; have : (gives fo ff).length ≤ fo.length := by unfold gives; split <;> simp
                                omega
    have hvw : ∀ k, WS wc.heap.size v3 k → k < w3.heap.size := fun k hx => by
      rcases hx with rfl | hx
      · exact hw3.blk.lt
      · exact (hw3.own.lt _ hx).2
    have HVW := Lib.hid hvw; have hsz34 := hb4.size; have hsz3 := hb3.size
    clear hvw
    have HO4 := Lib.hid hown4; have HW4 := Lib.hid hw4; have HB34 := Lib.hid hb34
    clear hown4 hw4 hb34 hb4 hb3 hw3 hw2 hb2
    go_wp2
    clear hcv4
    go_loopw [9] (fun i wr => ∃ (k : Nat) (y : List UInt8), k ≤ m4 ∧ i = .int .i64 (k : Nat) ∧ Own wr w3.heap.size 5 L8 (.slice A4 m4 c4) y ∧ Below w3.heap.size w4 wr) (fun i _ => m4 - (intOf i).toNat)
    case atStart => exact ⟨0, _, by omega, rfl, HO4.out, Below.refl _ _⟩
    case round =>
      obtain ⟨k, y, hk, rfl, hown, hb⟩ := hrel
      by_cases hlt : k < m4
      · obtain ⟨g, rfl, hg1, hg2, hc, hf⟩ := hown.form0 (by omega)
        have hy : y.length = m4 := hown.cap.1
        obtain ⟨x, hx⟩ : ∃ x, y[k]? = some x := ⟨_, List.getElem?_eq_getElem (by omega)⟩
        have hck : wr.cell? ⟨g, k, none⟩ = some (.int .u8 (x.toNat : Int)) := hc k _ (by rw [L8_all, List.getElem?_map, hx]; rfl)
        have hfk := hf k
        have hset := fun z => hown.set8 k z
        have HS := Lib.hid hset
        have hxl := x.toNat_lt
        clear hc hf hx hset hown
        go_wp2
        go_roundw
        case rel =>
          refine ⟨k + 1, y.set k (x + 1), by omega, by go_num, ?_, hb.setCell (p := ⟨g, k, none⟩) hg1 _⟩
          have := HS.out (x + 1)
          rw [b8_succ] at this
          exact this
        case measure => simp [intOf]; omega
      · have hw5 : Wr wr wc.heap.size wc.heap.size v3 fo ff := HW4.out.kept (Keep.of_belowB hb) fun k hk h => by have := HVW.out k hk; omega
        have hb5 : Below wc.heap.size wc wr := HB34.out.trans (hb.mono hsz3)
        clear hown hb
        go_wp2_with fail
        refine (bytes_any _ _ _ _ _ wr hw5 (by omega)).mono ?_
        rintro e w6 ⟨A10, m10, c10, rfl, hown10, hb6⟩
        have hb16 : Below wc.heap.size wc w6 := hb5.trans (hb6.mono hb5.size)
        have hsr5 := hb5.size
        clear hw5 hb5 hb6
        go_wp2_with fail
        refine (rnew_any A6 k2 c6 b2 w6 (HO6.out.rd.after hb16) (by omega)).mono ?_
        rintro e w7 ⟨g7, A7, n7, c7, rfl, hrs, hg7, hA7, hb7⟩
        have hb17 : Below wc.heap.size wc w7 := hb16.trans (hb7.mono hb16.size)
        have hown10' := hown10.after hb7
        have hown10lt : ∀ q, (Value.slice A10 m10 c10).ownBlock = some q → ¬ q = g7 := fun q hq h => by have := (hown10.lt q hq).2; omega
        clear hown10
        go_wp2_with fail
        refine (oneSig_any A6 k2 c6 b2 w7 (HO6.out.rd.after hb17) (by omega)).mono ?_
        rintro e w8 ⟨rfl, hb8⟩
        have hrel := rSig_R b2
        generalize grpR b2 10 = gR at hrel ⊢
        obtain ⟨q1, q2, q3⟩ := gR
        have HRel := Lib.hid hrel; clear hrel
        have hrs8 := hrs.after hb8
        have ho8 := hown10'.after hb8
        have hb18 : Below wc.heap.size wc w8 := hb17.trans (hb8.mono hb17.size)
        have hs16 := hb16.size; have hs67 := hb7.size; have hs78 := hb8.size
        clear hrs hown10' hb16 hb17 hb7 hb8
        have hown9 : Own (w8.alloc (.cells #[.int .u8 1, .int .i64 (unsg q1), .bool false, .string ⟨#[]⟩, .int .i64 0] 51)) w.heap.size 5 L8 (.slice A6 k2 c6) b2 := (HO6.out.after hb18).alloc _
        have hlt6 : ∀ q, (Value.slice A6 k2 c6).ownBlock = some q → q < wc.heap.size := fun q hq => (HO6.out.lt q hq).2
        have hblk9 : Blk (w8.alloc (.cells #[.int .u8 1, .int .i64 (unsg q1), .bool false, .string ⟨#[]⟩, .int .i64 0] 51)) w8.heap.size 51 #[.int .u8 1, .int .i64 (unsg q1), .bool false, .string ⟨#[]⟩, .int .i64 0] := Blk.new _ _ _
        have hrs9 := hrs8.after (((Below.refl _ _).alloc (Nat.le_refl _) (.cells #[.int .u8 1, .int .i64 (unsg q1), .bool false, .string ⟨#[]⟩, .int .i64 0] 51)))
        have ho9 := ho8.alloc (.cells #[.int .u8 1, .int .i64 (unsg q1), .bool false, .string ⟨#[]⟩, .int .i64 0] 51)
        have hb19 := hb18.alloc hb18.size (.cells #[.int .u8 1, .int .i64 (unsg q1), .bool false, .string ⟨#[]⟩, .int .i64 0] 51)
        go_wp2
        generalize hw9 : w8.alloc (.cells #[.int .u8 1, .int .i64 (unsg q1), .bool false, .string ⟨#[]⟩, .int .i64 0] 51) = w9 at hown9 hblk9 hrs9 ho9 hb19
        have hg78 := hrs8.blk.lt
        clear hw9 hrs8 ho8 hb18
        obtain ⟨wo, rfl⟩ : ∃ wo : World, wo = wr := ⟨_, rfl⟩
        have H9 := Lib.hid hown9; have HB9 := Lib.hid hblk9; have HRS9 := Lib.hid hrs9; have HO9 := Lib.hid ho9; have HB19 := Lib.hid hb19; have H6 := Lib.hid hlt6
        clear hown9 hblk9 hrs9 ho9 hb19 hlt6
        go_loopw [16] (fun i wr => ∃ (k : Nat) (y : List UInt8), k ≤ k2 ∧ i = .int .i64 (k : Nat) ∧ Own wr w.heap.size 5 L8 (.slice A6 k2 c6) y ∧ Keep (fun q => (Value.slice A6 k2 c6).ownBlock = some q) w9 wr) (fun i _ => k2 - (intOf i).toNat)
        case atStart => exact ⟨0, _, by omega, rfl, H9.out, Keep.refl _ _⟩
        case round =>
          obtain ⟨k', y', hk', rfl, hown', hb'⟩ := hrel
          by_cases hlt' : k' < k2
          · obtain ⟨g, rfl, hg1, hg2, hc, hf⟩ := hown'.form0 (by omega)
            have hy : y'.length = k2 := hown'.cap.1
            obtain ⟨x, hx⟩ : ∃ x, y'[k']? = some x := ⟨_, List.getElem?_eq_getElem (by omega)⟩
            have hck : wr.cell? ⟨g, k', none⟩ = some (.int .u8 (x.toNat : Int)) := hc k' _ (by rw [L8_all, List.getElem?_map, hx]; rfl)
            have hfk := hf k'
            have hset := fun z => hown'.set8 k' z
            have HS := Lib.hid hset; have HKB := Lib.hid hb'
            have hxl := x.toNat_lt
            clear hc hf hx hset hown' hb'
            go_wp2
            go_roundw
            case rel =>
              refine ⟨k' + 1, y'.set k' (x + 1), by omega, by go_num, ?_, HKB.out.setCell (p := ⟨g, k', none⟩) (fun _ => rfl) _⟩
              have := HS.out (x + 1)
              rw [b8_succ] at this
              exact this
            case measure => simp [intOf]; omega
          · have hsep : ∀ q, wc.heap.size ≤ q → ¬ (Value.slice A6 k2 c6).ownBlock = some q := fun q hq h => by have := H6.out q h; omega
            have hrs10 : RS wr g7 A7 n7 c7 b2 0 0 := HRS9.out.kept hb' (hsep _ (by omega)) fun _ ad had => hsep _ (by have := hA7 ad had; omega)
            have hblk10 := HB9.out.kept hb' (hsep _ (by omega))
            have hcell : wr.cell? ⟨w8.heap.size, 1, none⟩ = some (.int .i64 (unsg q1)) := hblk10.cell 1
            have ho10 : Own wr wo.heap.size 5 L8 (.slice A10 m10 c10) (gives fo ff) := HO9.out.kept hb' fun q hq h => by
              have h1 := (HO9.out.lt q hq).1
              have h2 := H6.out q h
              have := hsr5
              omega
            have hall : Below w.heap.size w wr := hb1.trans ((HB19.out.mono hb1.size).trans (hb'.below (by have := HB19.out.size; have := hb1.size; omega) fun q hq h => by
              have := (HO6.out.lt q h).1
              omega))
            clear hown' hb'
            go_wp2_with fail
            refine (rsigned_any g7 A7 n7 c7 b2 0 0 wr hrs10).mono ?_
            rintro e w11 ⟨rfl, hrs11, hk11⟩
            rw [List.drop_zero]
            have hne7 : ∀ q, q < w6.heap.size → ¬ q = g7 := fun q h => by omega
            have ho11 : Own w11 wo.heap.size 5 L8 (.slice A10 m10 c10) (gives fo ff) := ho10.kept hk11 fun q hq h => hown10lt q hq h
            have hall11 : Below w.heap.size w w11 := hall.trans (hk11.below (by have := hall.size; omega) fun q hq h => by have := hb1.size; omega)
            have hv : (q3 = 0 → (stepR (0 : Int) 0 0 (rSig b2)).1 = unsg q1) ∧ (q3 ≠ 0 → (stepR (0 : Int) 0 0 (rSig b2)).1 = 0) := by
              obtain ⟨r1, r2, r3⟩ := HRel.out
              unfold stepR
              rw [if_neg (by simp)]
              constructor
              · intro h
                have h0 : (rSig b2).2.2 = 0 := by
                  rcases Nat.eq_zero_or_pos (rSig b2).2.2 with h' | h'
                  · exact h'
                  · exact absurd h (r1.1 (by omega))
                rw [if_neg (by simp [h0])]
                exact r3 h0
              · intro h
                rw [if_pos (r1.2 h)]
            generalize (stepR (0 : Int) 0 0 (rSig b2)).1 = v at hv ⊢
            have hcell11 : w11.cell? ⟨w8.heap.size, 1, none⟩ = some (.int .i64 (unsg q1)) := (hblk10.kept hk11 (by omega)).cell 1
            have hblk11 := hblk10.kept hk11 (by omega)
            have HQ := Lib.hid (And.intro ho11 (And.intro hall11 (And.intro hv hblk11)))
            clear ho11 hall11 hv hblk11 hblk10 hcell hcell11 hk11 hrs11 ho10 hall hrs10
            go_wp2_with fail
            refine (known_any w11).mono ?_
            rintro e w12 ⟨rfl, hb12⟩
            obtain ⟨z1, z2, z3, z4⟩ := HQ.out
            have hcv : (convert 22 9 (.slice A10 m10 c10)).run Try.prog w12 = .ok (.string (str (gives fo ff))) w12 := run_conv8 Try.underlying22 Try.underlying5 Try.underlying9 (z1.rd.after hb12)
            have hc12 : w12.cell? ⟨w8.heap.size, 1, none⟩ = some (.int .i64 (unsg q1)) := (z4.after hb12).cell 1
            have hall12 : Below w.heap.size w w12 := z2.trans (hb12.mono z2.size)
            by_cases hq : q3 = 0
            · have hvv := z3.1 hq
              have eq0 : ((q3 : Int) == 0) = true := by simp; omega
              have eq1 : ((q3 : Int) != 0) = false := by simp; omega
              subst hvv
              have HA := Lib.hid hall12
              clear z1 z2 z3 z4 hall12 hq
              go_wp2
              go_returns
              exact ⟨rfl, HA.out⟩
            · have hvv := z3.2 hq
              have eq0 : ((q3 : Int) == 0) = false := by simp; omega
              have eq1 : ((q3 : Int) != 0) = true := by simp; omega
              subst hvv
              have HA := Lib.hid hall12
              clear z1 z2 z3 z4 hall12 hq
              go_wp2
              go_returns
              exact ⟨rfl, HA.out⟩
end Go.Proofs.Ytogagcdlkhinjaa
