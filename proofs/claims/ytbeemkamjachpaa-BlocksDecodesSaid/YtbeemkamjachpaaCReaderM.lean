/- The Reader's methods and NewReader, by contracts. -/
import Derived.Test.YtbeemkamjachpaaCReaderT
namespace Go.Proofs.Ytbeemkamjachpaa
open Go.RowKit
set_option maxRecDepth 100000
theorem RPost.before {a w w' : World} {g n c at_ f : Nat} {A : Option Addr} {l : List UInt8} {v : Value} {e : Ending} (hb : Below a.heap.size a w) (h : RPost w g A n c l v at_ f e w') : RPost a g A n c l v at_ f e w' :=
  ⟨h.1, h.2.1, (Keep.of_below (S := fun k => k = g) hb).trans h.2.2 fun _ _ h => h⟩
set_option maxHeartbeats 400000 in
theorem crnumber_any (g : Nat) (A : Option Addr) (n c : Nat) (l : List UInt8) (at_ f : Nat) (most : Int) (w : World) (hs : RS w g A n c l at_ f) :
    Calls Try.prog 57 #[.pointer (some ⟨g, 0, none⟩), .int .i64 most] w fun e w' => RPost w g A n c l (.int .i64 ((stepR 0 at_ f (rNum most (l.drop at_))).1 : Nat)) (stepR 0 at_ f (rNum most (l.drop at_))).2.1 (stepR 0 at_ f (rNum most (l.drop at_))).2.2 e w' := by
  have hb : Below w.heap.size w (w.alloc (.cells #[.int .i64 most] 3)) := (Below.refl _ _).alloc (Nat.le_refl _) _
  have hcall := readNum_any g A n c l at_ f ⟨w.heap.size, 0, none⟩ most _ (hs.after hb) ((Blk.new w 3 #[.int .i64 most]).cell 0)
  generalize stepR 0 at_ f (rNum most (l.drop at_)) = r at hcall ⊢
  have HC := Lib.hid hcall; have HB := Lib.hid hb; clear hcall hb
  go_enter Try.func57, Try.ntmps57
  go_wp2_with fail
  refine HC.out.mono ?_
  rintro e w' h
  have h' := h.before HB.out
  obtain ⟨rfl, hq⟩ := h'
  have HQ := Lib.hid hq; clear h hq
  go_wp2
  go_returns
  exact ⟨rfl, HQ.out⟩
set_option maxHeartbeats 400000 in
theorem rtext_any (g : Nat) (A : Option Addr) (n c : Nat) (l : List UInt8) (at_ f : Nat) (most : Int) (w : World) (hs : RS w g A n c l at_ f) :
    Calls Try.prog 58 #[.pointer (some ⟨g, 0, none⟩), .int .i64 most] w fun e w' => RPost w g A n c l (.string (str (stepR [] at_ f (rText most (l.drop at_))).1)) (stepR [] at_ f (rText most (l.drop at_))).2.1 (stepR [] at_ f (rText most (l.drop at_))).2.2 e w' := by
  have hb : Below w.heap.size w (w.alloc (.cells #[.int .i64 most] 3)) := (Below.refl _ _).alloc (Nat.le_refl _) _
  have hcall := readText_any g A n c l at_ f ⟨w.heap.size, 0, none⟩ most _ (hs.after hb) ((Blk.new w 3 #[.int .i64 most]).cell 0)
  generalize stepR [] at_ f (rText most (l.drop at_)) = r at hcall ⊢
  have HC := Lib.hid hcall; have HB := Lib.hid hb; clear hcall hb
  go_enter Try.func58, Try.ntmps58
  go_wp2_with fail
  refine HC.out.mono ?_
  rintro e w' h
  have h' := h.before HB.out
  obtain ⟨rfl, hq⟩ := h'
  have HQ := Lib.hid hq; clear h hq
  go_wp2
  go_returns
  exact ⟨rfl, HQ.out⟩
set_option maxHeartbeats 400000 in
theorem rnew_any (A : Option Addr) (n c : Nat) (l : List UInt8) (w : World) (hr : Rd w w.heap.size L8 A n l) (hn : n ≤ 100000000) :
    Calls Try.prog 56 #[.slice A n c] w fun e w' => ∃ g A' n' c', e = .returned (.pointer (some ⟨g, 0, none⟩)) ∧ RS w' g A' n' c' l 0 0 ∧ w.heap.size ≤ g ∧ (∀ ad, A' = some ad → w.heap.size ≤ ad.block) ∧ Below w.heap.size w w' := by
  go_enter Try.func56, Try.ntmps56
  have hl := hr.len
  have HL := Lib.hid hl; clear hl
  go_wp2_with (at_builtin; refine ap_any _ rfl _ _ El8 rfl w.heap.size (.slice (some ⟨w.heap.size, 0, none⟩) 0 0) [] rfl ?c1 w.heap.size A n c l rfl ?c2 ?c3 ?c4 ?c5 ?_)
  case c1 => exact new_own (l := []) (Nat.le_refl _) (Nat.zero_le _) rfl
  case c2 => exact hr.alloc (Nat.le_refl _) _
  case c3 => simp; omega
  case c4 => simp; omega
  case c5 => simp
  intro A1 c1 w1 hown1 hg1 _ hnc1 hc1
  have hb1 : Below w.heap.size w w1 := ((Below.refl _ _).alloc (Nat.le_refl _) _).grown hg1 (by simp) (fun k hk => by simp [Value.ownBlock] at hk; omega)
  have hrs : RS (w1.alloc (.cells #[.slice A1 n c1, .int .i64 ((0 : Nat) : Int), .int .i64 ((0 : Nat) : Int)] 110)) w1.heap.size A1 n c1 l 0 0 := by
    refine ⟨Blk.new _ _ _, (hown1.rd.alloc (Nat.le_refl _) _).more (by simp), fun hn ad had he => ?_, Nat.zero_le _, hown1.cap.2.1, by unfold maxLen at hc1; omega⟩
    have := hown1.rd.lt hn ad had
    omega
  have hfr : ∀ ad, A1 = some ad → w.heap.size ≤ ad.block := fun ad had => hown1.from_ _ (by rw [had]; rfl)
  have HQ := Lib.hid (And.intro hrs (And.intro hb1.size (And.intro hfr (hb1.alloc hb1.size (.cells #[.slice A1 n c1, .int .i64 ((0 : Nat) : Int), .int .i64 ((0 : Nat) : Int)] 110)))))
  clear hrs hfr hb1 hg1 hown1
  go_wp2
  go_returns
  exact ⟨_, _, _, _, rfl, HQ.out⟩
set_option maxHeartbeats 400000 in
theorem rrest_any (g : Nat) (A : Option Addr) (n c : Nat) (l : List UInt8) (at_ f : Nat) (w : World) (hs : RS w g A n c l at_ f) :
    Calls Try.prog 75 #[.pointer (some ⟨g, 0, none⟩)] w fun e w' => e = .returned (.int .i64 ((n - at_ : Nat) : Int)) ∧ ∃ k, w' = w.drewN k := by
  have c0 : w.cell? ⟨g, 0, none⟩ = some (.slice A n c) := hs.blk.cell 0
  have c1 : w.cell? ⟨g, 1, none⟩ = some (.int .i64 (at_ : Nat)) := hs.blk.cell 1
  have hle := hs.le; have hnc := hs.nc; have hcm := hs.cm
  clear hs
  go_enter Try.func75, Try.ntmps75
  go_wp2
  go_quiet (fail)
  go_wp2
  go_returns
  exact ⟨ret1 (by omega), _, rfl⟩
/-- What Close returns. -/
def closes (rest f : Nat) : Nat := if f = 0 ∧ 0 < rest then 5 else f
set_option maxHeartbeats 400000 in
theorem rclose_any (g : Nat) (A : Option Addr) (n c : Nat) (l : List UInt8) (at_ f : Nat) (w : World) (hs : RS w g A n c l at_ f) :
    Calls Try.prog 59 #[.pointer (some ⟨g, 0, none⟩)] w fun e w' => e = .returned (.int .i64 (closes (n - at_) f : Nat)) ∧ ∃ k, w' = w.drewN k := by
  have c2 : w.cell? ⟨g, 2, none⟩ = some (.int .i64 (f : Nat)) := hs.blk.cell 2
  have HS := Lib.hid hs; clear hs
  by_cases hf : f = 0
  · subst hf
    by_cases hr : 0 < n - at_
    · have hcl : closes (n - at_) 0 = 5 := by unfold closes; rw [if_pos ⟨rfl, hr⟩]
      rw [hcl]
      clear hcl
      go_enter Try.func59, Try.ntmps59
      go_wp2_with fail
      refine (rrest_any g A n c l at_ 0 w HS.out).mono ?_
      rintro e w' ⟨rfl, k, rfl⟩
      go_wp2
      go_returns
      exact ⟨rfl, _, rfl⟩
    · have hcl : closes (n - at_) 0 = 0 := by unfold closes; rw [if_neg (fun h => hr h.2)]
      have hz : n - at_ = 0 := by omega
      rw [hcl]
      have HZ := Lib.hid hz
      clear hcl hz
      go_enter Try.func59, Try.ntmps59
      go_wp2_with fail
      refine (rrest_any g A n c l at_ 0 w HS.out).mono ?_
      rintro e w' ⟨rfl, k, rfl⟩
      rw [HZ.out]
      go_wp2
      go_returns
      exact ⟨rfl, _, rfl⟩
  · have e2 : ((f : Int) == 0) = false := by simp; omega
    have hcl : closes (n - at_) f = f := by unfold closes; rw [if_neg (fun h => hf h.1)]
    rw [hcl]
    clear hcl
    go_enter Try.func59, Try.ntmps59
    go_wp2
    go_returns
    exact ⟨rfl, 0, rfl⟩
end Go.Proofs.Ytbeemkamjachpaa
