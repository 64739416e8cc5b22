/- The reference's Require and Remove, and Remove, by contracts. -/
import Derived.Test.YtgegkjjknlfkpaaDoorRefA
import Derived.Test.YtgegkjjknlfkpaaDoorText
namespace Go.Proofs.YtgegkjjknlfkpaaDoor
open Go.RowKit
set_option maxRecDepth 100000
def bad (x bt q : Nat) : Prop := x / q % 2 = 1 ∧ bt / q % 2 = 0
instance (x bt q : Nat) : Decidable (bad x bt q) := by unfold bad; infer_instance
theorem bad_all (x bt : Nat) (hx : x < 8) (hb : bt < 8) : (bt &&& x = x) ↔ ¬ bad x bt 1 ∧ ¬ bad x bt 2 ∧ ¬ bad x bt 4 := by
  have h : ∀ x : Fin 8, ∀ b : Fin 8, (b.val &&& x.val = x.val) ↔ ¬ bad x b 1 ∧ ¬ bad x b 2 ∧ ¬ bad x b 4 := by decide +kernel
  exact h ⟨x, hx⟩ ⟨bt, hb⟩
def ReqRel (u : Int) (x bt : Nat) (b : Value) : Prop :=
  (b = .int .i64 1) ∨ (b = .int .i64 2 ∧ (u = 0 ∨ ¬ bad x bt 1)) ∨ (b = .int .i64 4 ∧ (u = 0 ∨ ¬ bad x bt 1 ∧ ¬ bad x bt 2)) ∨ (b = .int .i64 8 ∧ (u = 0 ∨ ¬ bad x bt 1 ∧ ¬ bad x bt 2 ∧ ¬ bad x bt 4))
set_option maxHeartbeats 2000000 in
theorem rrequire_any (u : Int) (A : Option Addr) (n c : Nat) (l : List Int) (owner group mode want : Int) (w : World) (hr : Rd w w.heap.size LI A n l) (hn : n ≤ 9223372036854775807) :
    Calls Tryd.prog 32 #[.agg #[.int .i64 u, .slice A n c], .int .i64 owner, .int .i64 group, .int .i64 mode, .int .i64 want] w fun e w' => e = .returned (.int .i64 (reqN u l owner group mode want : Nat)) ∧ Below w.heap.size w w' := by
  have hal : ∀ o, Below w.heap.size w (w.alloc o) := fun o => (Below.refl _ _).alloc (Nat.le_refl _) o
  have HAl := Lib.hid hal
  have HR := Lib.hid hr
  clear hal hr
  by_cases hm : mode < 0 ∨ 2047 < mode
  · have HQ := Lib.hid (show reqN u l owner group mode want = 2 by unfold reqN; rw [if_pos (by omega)])
    go_enter Tryd.func32, Tryd.ntmps32
    go_wp2_with fail
    refine (rvalid_no mode _ hm).mono ?_
    rintro e w1 ⟨rfl, rfl⟩
    clear hm
    go_wp2
    go_returns
    rw [HQ.out]
    exact ⟨rfl, HAl.out _⟩
  · obtain ⟨m, rfl⟩ := Int.eq_ofNat_of_zero_le (show 0 ≤ mode by omega)
    have hm' : m ≤ 2047 := by omega
    clear hm
    by_cases hw1 : want < 0
    · have HQ := Lib.hid (show reqN u l owner group m want = 2 by unfold reqN; rw [if_pos (by omega)])
      have e0 : decide (want < 0) = true := by simp [hw1]
      clear hw1
      go_enter Tryd.func32, Tryd.ntmps32
      go_wp2_with fail
      refine (rvalid_yes m _ hm').mono ?_
      rintro e w1 ⟨rfl, rfl⟩
      go_wp2
      go_returns
      rw [HQ.out]
      exact ⟨rfl, HAl.out _⟩
    by_cases hw2 : 7 < want
    · have HQ := Lib.hid (show reqN u l owner group m want = 2 by unfold reqN; rw [if_pos (by omega)])
      have e0 : decide (want < 0) = false := by simp; omega
      have e1 : decide (7 < want) = true := by simp [hw2]
      clear hw1 hw2
      go_enter Tryd.func32, Tryd.ntmps32
      go_wp2_with fail
      refine (rvalid_yes m _ hm').mono ?_
      rintro e w1 ⟨rfl, rfl⟩
      go_wp2
      go_returns
      rw [HQ.out]
      exact ⟨rfl, HAl.out _⟩
    have e0 : decide (want < 0) = false := by simp; omega
    have e1 : decide (7 < want) = false := by simp; omega
    obtain ⟨x, rfl⟩ := Int.eq_ofNat_of_zero_le (show 0 ≤ want by omega)
    have hx : x ≤ 7 := by omega
    clear hw1 hw2
    have hq : reqN u l owner group m x = if u = 0 ∨ bitsN m (classN u l owner group) &&& x = x then 0 else 14 := by unfold reqN; rw [if_neg (by omega)]; rfl
    have HQ0 := Lib.hid hq
    clear hq
    go_enter Tryd.func32, Tryd.ntmps32
    go_wp2_with fail
    refine (rvalid_yes m _ hm').mono ?_
    rintro e w1 ⟨rfl, rfl⟩
    go_wp2_with fail
    refine (rclass_any u A n c l owner group _ (HR.out.after (HAl.out _)) hn).mono ?_
    rintro e w2 ⟨rfl, hb2⟩
    have hb02 := (HAl.out _).trans (hb2.mono (HAl.out _).size)
    have hcu : w2.cell? ⟨w.heap.size, 0, none⟩ = some (.int .i64 u) := ((Blk.new w 24 #[.int .i64 u, .slice A n c]).after hb2).cell 0
    have HB := Lib.hid hb02
    have hcl := classN_le u l owner group
    generalize classN u l owner group = cl at HQ0 hcl ⊢
    clear hb2 hb02
    go_wp2_with fail
    refine (rbits_yes m cl w2 hm' hcl).mono ?_
    rintro e w3 ⟨rfl, rfl⟩
    have hbl := bitsN_lt m cl
    generalize bitsN m cl = bt at HQ0 hbl ⊢
    have hba := bad_all x bt (by omega) hbl
    have HQ : Hid (reqN u l owner group m x = if u = 0 ∨ ¬ bad x bt 1 ∧ ¬ bad x bt 2 ∧ ¬ bad x bt 4 then 0 else 14) := Lib.hid (by rw [HQ0.out]; simp only [hba])
    clear HQ0 hba
    go_wp2
    go_loop [12] (fun b => ReqRel u x bt b) (fun b => 8 - (intOf b).toNat)
    case atStart => exact .inl rfl
    case round =>
      rcases hrel with rfl | ⟨rfl, hrel⟩ | ⟨rfl, hrel⟩ | ⟨rfl, hrel⟩
      · by_cases hu : u = 0
        · have e2 : (u != 0) = false := by simp [hu]
          have HU := Lib.hid hu; clear hu
          go_wp2
          go_round
          case rel => exact .inr (.inl ⟨rfl, .inl HU.out⟩)
          case measure => simp [intOf]
        · have e2 : (u != 0) = true := by simp [hu]
          have HU := Lib.hid hu; clear hu
          by_cases h1 : x / 1 % 2 = 1
          · by_cases h2 : bt / 1 % 2 = 0
            · have e3 : ((x : Int) % 2 == 1) = true := by simp; omega
              have e4 : ((bt : Int) % 2 == 0) = true := by simp; omega
              have HX := Lib.hid (show bad x bt 1 from ⟨h1, h2⟩)
              clear h1 h2
              go_wp2
              go_returns
              rw [HQ.out, if_neg (fun h => h.elim HU.out (fun h => h.1 HX.out))]
              exact ⟨rfl, HB.out⟩
            · have e3 : ((x : Int) % 2 == 1) = true := by simp; omega
              have e4 : ((bt : Int) % 2 == 0) = false := by simp; omega
              have HX := Lib.hid (show ¬ bad x bt 1 from fun h => h2 h.2)
              clear h1 h2
              go_wp2
              go_round
              case rel => exact .inr (.inl ⟨rfl, .inr HX.out⟩)
              case measure => simp [intOf]
          · have e3 : ((x : Int) % 2 == 1) = false := by simp; omega
            have HX := Lib.hid (show ¬ bad x bt 1 from fun h => h1 h.1)
            clear h1
            go_wp2
            go_round
            case rel => exact .inr (.inl ⟨rfl, .inr HX.out⟩)
            case measure => simp [intOf]
      · by_cases hu : u = 0
        · have e2 : (u != 0) = false := by simp [hu]
          have HU := Lib.hid hu; clear hu hrel
          go_wp2
          go_round
          case rel => exact .inr (.inr (.inl ⟨rfl, .inl HU.out⟩))
          case measure => simp [intOf]
        · have e2 : (u != 0) = true := by simp [hu]
          have HR1 := Lib.hid (hrel.resolve_left hu)
          have HU := Lib.hid hu; clear hu hrel
          by_cases h1 : x / 2 % 2 = 1
          · by_cases h2 : bt / 2 % 2 = 0
            · have e3 : ((x : Int) / 2 % 2 == 1) = true := by simp; omega
              have e4 : ((bt : Int) / 2 % 2 == 0) = true := by simp; omega
              have HX := Lib.hid (show bad x bt 2 from ⟨h1, h2⟩)
              clear h1 h2
              go_wp2
              go_returns
              rw [HQ.out, if_neg (fun h => h.elim HU.out (fun h => h.2.1 HX.out))]
              exact ⟨rfl, HB.out⟩
            · have e3 : ((x : Int) / 2 % 2 == 1) = true := by simp; omega
              have e4 : ((bt : Int) / 2 % 2 == 0) = false := by simp; omega
              have HX := Lib.hid (show ¬ bad x bt 2 from fun h => h2 h.2)
              clear h1 h2
              go_wp2
              go_round
              case rel => exact .inr (.inr (.inl ⟨rfl, .inr ⟨HR1.out, HX.out⟩⟩))
              case measure => simp [intOf]
          · have e3 : ((x : Int) / 2 % 2 == 1) = false := by simp; omega
            have HX := Lib.hid (show ¬ bad x bt 2 from fun h => h1 h.1)
            clear h1
            go_wp2
            go_round
            case rel => exact .inr (.inr (.inl ⟨rfl, .inr ⟨HR1.out, HX.out⟩⟩))
            case measure => simp [intOf]
      · by_cases hu : u = 0
        · have e2 : (u != 0) = false := by simp [hu]
          have HU := Lib.hid hu; clear hu hrel
          go_wp2
          go_round
          case rel => exact .inr (.inr (.inr ⟨rfl, .inl HU.out⟩))
          case measure => simp [intOf]
        · have e2 : (u != 0) = true := by simp [hu]
          have HR1 := Lib.hid (hrel.resolve_left hu)
          have HU := Lib.hid hu; clear hu hrel
          by_cases h1 : x / 4 % 2 = 1
          · by_cases h2 : bt / 4 % 2 = 0
            · have e3 : ((x : Int) / 4 % 2 == 1) = true := by simp; omega
              have e4 : ((bt : Int) / 4 % 2 == 0) = true := by simp; omega
              have HX := Lib.hid (show bad x bt 4 from ⟨h1, h2⟩)
              clear h1 h2
              go_wp2
              go_returns
              rw [HQ.out, if_neg (fun h => h.elim HU.out (fun h => h.2.2 HX.out))]
              exact ⟨rfl, HB.out⟩
            · have e3 : ((x : Int) / 4 % 2 == 1) = true := by simp; omega
              have e4 : ((bt : Int) / 4 % 2 == 0) = false := by simp; omega
              have HX := Lib.hid (show ¬ bad x bt 4 from fun h => h2 h.2)
              clear h1 h2
              go_wp2
              go_round
              case rel => exact .inr (.inr (.inr ⟨rfl, .inr ⟨HR1.out.1, HR1.out.2, HX.out⟩⟩))
              case measure => simp [intOf]
          · have e3 : ((x : Int) / 4 % 2 == 1) = false := by simp; omega
            have HX := Lib.hid (show ¬ bad x bt 4 from fun h => h1 h.1)
            clear h1
            go_wp2
            go_round
            case rel => exact .inr (.inr (.inr ⟨rfl, .inr ⟨HR1.out.1, HR1.out.2, HX.out⟩⟩))
            case measure => simp [intOf]
      · have HR1 := Lib.hid hrel; clear hrel
        go_wp2
        go_returns
        rw [HQ.out, if_pos HR1.out]
        exact ⟨rfl, HB.out⟩
/-- What Remove returns. -/
def remN (u : Int) (l : List Int) (downer dgroup dmode owner : Int) : Nat :=
  if reqN u l downer dgroup dmode 3 ≠ 0 then reqN u l downer dgroup dmode 3 else if dmode.toNat / 1024 % 2 = 1 ∧ u ≠ 0 ∧ u ≠ downer ∧ u ≠ owner then 14 else 0
theorem reqN_0 {u : Int} {l : List Int} {owner group mode want : Int} (h : reqN u l owner group mode want = 0) : ∃ m : Nat, mode = m ∧ m ≤ 2047 := by
  unfold reqN at h
  split at h
  · omega
  · exact ⟨mode.toNat, by omega, by omega⟩
theorem reqN_lt (u : Int) (l : List Int) (owner group mode want : Int) : reqN u l owner group mode want ≤ 14 := by
  unfold reqN; split <;> (try split) <;> omega
set_option maxHeartbeats 1000000 in
theorem rremove_any (u : Int) (A : Option Addr) (n c : Nat) (l : List Int) (downer dgroup dmode owner : Int) (w : World) (hr : Rd w w.heap.size LI A n l) (hn : n ≤ 9223372036854775807) :
    Calls Tryd.prog 18 #[.agg #[.int .i64 u, .slice A n c], .int .i64 downer, .int .i64 dgroup, .int .i64 dmode, .int .i64 owner] w fun e w' => e = .returned (.int .i64 (remN u l downer dgroup dmode owner : Nat)) ∧ Below w.heap.size w w' := by
  have hal : ∀ o, Below w.heap.size w (w.alloc o) := fun o => (Below.refl _ _).alloc (Nat.le_refl _) o
  have HAl := Lib.hid hal
  have HR := Lib.hid hr
  clear hal hr
  generalize hrs : remN u l downer dgroup dmode owner = res
  have HRS := Lib.hid hrs; clear hrs
  go_enter Tryd.func18, Tryd.ntmps18
  go_wp2_with fail
  refine (rrequire_any u A n c l downer dgroup dmode 3 _ (HR.out.after (HAl.out _)) hn).mono ?_
  rintro e w2 ⟨rfl, hb2⟩
  have hb02 := (HAl.out _).trans (hb2.mono (HAl.out _).size)
  have hcu : w2.cell? ⟨w.heap.size, 0, none⟩ = some (.int .i64 u) := ((Blk.new w 24 #[.int .i64 u, .slice A n c]).after hb2).cell 0
  have HB := Lib.hid hb02
  have HQ := Lib.hid (show res = if reqN u l downer dgroup dmode 3 ≠ 0 then reqN u l downer dgroup dmode 3 else if dmode.toNat / 1024 % 2 = 1 ∧ u ≠ 0 ∧ u ≠ downer ∧ u ≠ owner then 14 else 0 from HRS.out.symm)
  have hz := @reqN_0 u l downer dgroup dmode 3
  generalize reqN u l downer dgroup dmode 3 = r at HQ hz ⊢
  clear hb2 hb02
  by_cases h0 : r = 0
  · obtain ⟨m, hm, hm'⟩ := hz h0
    subst hm
    have HQ' := Lib.hid (show res = if m / 1024 % 2 = 1 ∧ u ≠ 0 ∧ u ≠ downer ∧ u ≠ owner then 14 else 0 by rw [HQ.out, if_neg (by omega)]; rfl)
    have er : ((r : Int) != 0) = false := by simp [h0]
    clear HQ h0 hz
    by_cases h1 : m / 1024 % 2 = 1
    · have e1 : ((m : Int) / 1024 % 2 == 1) = true := by simp; omega
      have H1 := Lib.hid h1; clear h1
      by_cases h2 : u = 0
      · have e2 : (u != 0) = false := by simp [h2]
        have HF := Lib.hid (show res = 0 by rw [HQ'.out, if_neg (fun h => h.2.1 h2)])
        clear h2
        go_wp2
        go_returns
        rw [HF.out]
        exact ⟨rfl, HB.out⟩
      have e2 : (u != 0) = true := by simp [h2]
      by_cases h3 : u = downer
      · have e3 : (u != downer) = false := by simp [h3]
        have HF := Lib.hid (show res = 0 by rw [HQ'.out, if_neg (fun h => h.2.2.1 h3)])
        clear h2 h3
        go_wp2
        go_returns
        rw [HF.out]
        exact ⟨rfl, HB.out⟩
      have e3 : (u != downer) = true := by simp [h3]
      by_cases h4 : u = owner
      · have e4 : (u != owner) = false := by simp [h4]
        have HF := Lib.hid (show res = 0 by rw [HQ'.out, if_neg (fun h => h.2.2.2 h4)])
        clear h2 h3 h4
        go_wp2
        go_returns
        rw [HF.out]
        exact ⟨rfl, HB.out⟩
      · have e4 : (u != owner) = true := by simp [h4]
        have HF := Lib.hid (show res = 14 by rw [HQ'.out, if_pos ⟨H1.out, h2, h3, h4⟩])
        clear h2 h3 h4
        go_wp2
        go_returns
        rw [HF.out]
        exact ⟨rfl, HB.out⟩
    · have e1 : ((m : Int) / 1024 % 2 == 1) = false := by simp; omega
      have HF := Lib.hid (show res = 0 by rw [HQ'.out, if_neg (fun h => h1 h.1)])
      clear h1
      go_wp2
      go_returns
      rw [HF.out]
      exact ⟨rfl, HB.out⟩
  · have er : ((r : Int) != 0) = true := by simp [h0]
    have HF := Lib.hid (show res = r by rw [HQ.out, if_pos h0])
    clear h0 hz
    go_wp2
    go_returns
    rw [HF.out]
    exact ⟨rfl, HB.out⟩
set_option maxHeartbeats 1000000 in
theorem remove_any (u : Int) (A : Option Addr) (n c : Nat) (l : List Int) (downer dgroup dmode owner : Int) (w : World) (hg : Glob w) (hr : Rd w w.heap.size LI A n l) (hn : n ≤ 9223372036854775807) :
    Calls Tryd.prog 17 #[.agg #[.int .i64 u, .slice A n c], .int .i64 downer, .int .i64 dgroup, .int .i64 dmode, .int .i64 owner] w fun e w' => e = .returned (.int .i64 (remN u l downer dgroup dmode owner : Nat)) ∧ Below w.heap.size w w' := by
  have hal : ∀ o, Below w.heap.size w (w.alloc o) := fun o => (Below.refl _ _).alloc (Nat.le_refl _) o
  have HAl := Lib.hid hal
  have HR := Lib.hid hr; have HG := Lib.hid hg
  clear hal hr hg
  generalize hrs : remN u l downer dgroup dmode owner = res
  have HRS := Lib.hid hrs; clear hrs
  go_enter Tryd.func17, Tryd.ntmps17
  go_wp2_with fail
  refine (require_any u A n c l downer dgroup dmode 3 _ (HG.out.after HG.out.lt (HAl.out _)) (HR.out.after (HAl.out _)) hn).mono ?_
  rintro e w2 ⟨rfl, hb2⟩
  have hb02 := (HAl.out _).trans (hb2.mono (HAl.out _).size)
  have hcu : w2.cell? ⟨w.heap.size, 0, none⟩ = some (.int .i64 u) := ((Blk.new w 28 #[.int .i64 u, .slice A n c]).after hb2).cell 0
  have HB := Lib.hid hb02
  have HQ := Lib.hid (show res = if reqN u l downer dgroup dmode 3 ≠ 0 then reqN u l downer dgroup dmode 3 else if dmode.toNat / 1024 % 2 = 1 ∧ u ≠ 0 ∧ u ≠ downer ∧ u ≠ owner then 14 else 0 from HRS.out.symm)
  have hz := @reqN_0 u l downer dgroup dmode 3
  generalize reqN u l downer dgroup dmode 3 = r at HQ hz ⊢
  clear hb2 hb02
  by_cases h0 : r = 0
  · obtain ⟨m, hm, hm'⟩ := hz h0
    subst hm
    have HQ' := Lib.hid (show res = if m / 1024 % 2 = 1 ∧ u ≠ 0 ∧ u ≠ downer ∧ u ≠ owner then 14 else 0 by rw [HQ.out, if_neg (by omega)]; rfl)
    have er : ((r : Int) != 0) = false := by simp [h0]
    have hand := i64_and_nat m 1024 (by omega) (by omega)
    rw [show m &&& 1024 = if m / 1024 % 2 = 1 then 1024 else 0 from and_pow m 10] at hand
    clear HQ h0 hz
    by_cases h1 : m / 1024 % 2 = 1
    · have e1 : (bits .and .i64 (m : Int) 1024 != 0) = true := by rw [if_pos h1] at hand; rw [show bits .and .i64 (m : Int) 1024 = ((1024 : Nat) : Int) from hand]; rfl
      have H1 := Lib.hid h1; clear h1 hand
      by_cases h2 : u = 0
      · have e2 : (u != 0) = false := by simp [h2]
        have HF := Lib.hid (show res = 0 by rw [HQ'.out, if_neg (fun h => h.2.1 h2)])
        clear h2
        go_wp2
        go_returns
        rw [HF.out]
        exact ⟨rfl, HB.out⟩
      have e2 : (u != 0) = true := by simp [h2]
      by_cases h3 : u = downer
      · have e3 : (u != downer) = false := by simp [h3]
        have HF := Lib.hid (show res = 0 by rw [HQ'.out, if_neg (fun h => h.2.2.1 h3)])
        clear h2 h3
        go_wp2
        go_returns
        rw [HF.out]
        exact ⟨rfl, HB.out⟩
      have e3 : (u != downer) = true := by simp [h3]
      by_cases h4 : u = owner
      · have e4 : (u != owner) = false := by simp [h4]
        have HF := Lib.hid (show res = 0 by rw [HQ'.out, if_neg (fun h => h.2.2.2 h4)])
        clear h2 h3 h4
        go_wp2
        go_returns
        rw [HF.out]
        exact ⟨rfl, HB.out⟩
      · have e4 : (u != owner) = true := by simp [h4]
        have HF := Lib.hid (show res = 14 by rw [HQ'.out, if_pos ⟨H1.out, h2, h3, h4⟩])
        clear h2 h3 h4
        go_wp2
        go_returns
        rw [HF.out]
        exact ⟨rfl, HB.out⟩
    · have e1 : (bits .and .i64 (m : Int) 1024 != 0) = false := by rw [if_neg h1] at hand; rw [show bits .and .i64 (m : Int) 1024 = ((0 : Nat) : Int) from hand]; rfl
      have HF := Lib.hid (show res = 0 by rw [HQ'.out, if_neg (fun h => h1 h.1)])
      clear h1 hand
      go_wp2
      go_returns
      rw [HF.out]
      exact ⟨rfl, HB.out⟩
  · have er : ((r : Int) != 0) = true := by simp [h0]
    have HF := Lib.hid (show res = r by rw [HQ.out, if_pos h0])
    clear h0 hz
    go_wp2
    go_returns
    rw [HF.out]
    exact ⟨rfl, HB.out⟩
end Go.Proofs.YtgegkjjknlfkpaaDoor
