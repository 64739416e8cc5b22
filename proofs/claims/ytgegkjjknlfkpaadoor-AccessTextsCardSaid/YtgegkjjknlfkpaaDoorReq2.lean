/- Require, by a contract. -/
import Derived.Test.YtgegkjjknlfkpaaDoorReq
namespace Go.Proofs.YtgegkjjknlfkpaaDoor
open Go.RowKit
set_option maxRecDepth 100000
theorem bitsN_lt (m c : Nat) : bitsN m c < 8 := Nat.mod_lt _ (by decide)
/-- What Require returns. -/
def reqN (u : Int) (l : List Int) (owner group mode want : Int) : Nat :=
  if mode < 0 ∨ 2047 < mode ∨ want < 0 ∨ 7 < want then 2 else if u = 0 ∨ bitsN mode.toNat (classN u l owner group) &&& want.toNat = want.toNat then 0 else 14
set_option maxHeartbeats 1000000 in
theorem require_any (u : Int) (A : Option Addr) (n c : Nat) (l : List Int) (owner group mode want : Int) (w : World) (hg : Glob w) (hr : Rd w w.heap.size LI A n l) (hn : n ≤ 9223372036854775807) :
    Calls Tryd.prog 11 #[.agg #[.int .i64 u, .slice A n c], .int .i64 owner, .int .i64 group, .int .i64 mode, .int .i64 want] w fun e w' => e = .returned (.int .i64 (reqN u l owner group mode want : Nat)) ∧ Below w.heap.size w w' := by
  have hal : ∀ o, Below w.heap.size w (w.alloc o) := fun o => (Below.refl _ _).alloc (Nat.le_refl _) o
  have HAl := Lib.hid hal
  have HR := Lib.hid hr; have HG := Lib.hid hg
  clear hal hr hg
  by_cases hm : mode < 0 ∨ 2047 < mode
  · have HQ := Lib.hid (show reqN u l owner group mode want = 2 by unfold reqN; rw [if_pos (by omega)])
    go_enter Tryd.func11, Tryd.ntmps11
    go_wp2_with fail
    refine (valid_no mode _ hm).mono ?_
    rintro e w1 ⟨rfl, rfl⟩
    clear hm
    go_wp2
    go_returns
    rw [HQ.out]
    exact ⟨rfl, HAl.out _⟩
  · obtain ⟨m, rfl⟩ := Int.eq_ofNat_of_zero_le (show 0 ≤ mode by omega)
    have hm' : m ≤ 2047 := by omega
    clear hm
    by_cases hw1 : want < 0
    · have HQ := Lib.hid (show reqN u l owner group m want = 2 by unfold reqN; rw [if_pos (by omega)])
      have e0 : decide (want < 0) = true := by simp [hw1]
      clear hw1
      go_enter Tryd.func11, Tryd.ntmps11
      go_wp2_with fail
      refine (valid_yes m _ hm').mono ?_
      rintro e w1 ⟨rfl, rfl⟩
      go_wp2
      go_returns
      rw [HQ.out]
      exact ⟨rfl, HAl.out _⟩
    by_cases hw2 : 7 < want
    · have HQ := Lib.hid (show reqN u l owner group m want = 2 by unfold reqN; rw [if_pos (by omega)])
      have e0 : decide (want < 0) = false := by simp; omega
      have e1 : decide (7 < want) = true := by simp [hw2]
      clear hw1 hw2
      go_enter Tryd.func11, Tryd.ntmps11
      go_wp2_with fail
      refine (valid_yes m _ hm').mono ?_
      rintro e w1 ⟨rfl, rfl⟩
      go_wp2
      go_returns
      rw [HQ.out]
      exact ⟨rfl, HAl.out _⟩
    have e0 : decide (want < 0) = false := by simp; omega
    have e1 : decide (7 < want) = false := by simp; omega
    obtain ⟨x, rfl⟩ := Int.eq_ofNat_of_zero_le (show 0 ≤ want by omega)
    have hx : x ≤ 7 := by omega
    clear hw1 hw2
    have hq : reqN u l owner group m x = if u = 0 ∨ bitsN m (classN u l owner group) &&& x = x then 0 else 14 := by unfold reqN; rw [if_neg (by omega)]; rfl
    by_cases hu : u = 0
    · have HQ := Lib.hid (show reqN u l owner group m x = 0 by rw [hq, if_pos (.inl hu)])
      have e2 : (u == 0) = true := by simp [hu]
      clear hq hu
      go_enter Tryd.func11, Tryd.ntmps11
      go_wp2_with fail
      refine (valid_yes m _ hm').mono ?_
      rintro e w1 ⟨rfl, rfl⟩
      go_wp2
      go_returns
      rw [HQ.out]
      exact ⟨rfl, HAl.out _⟩
    · have e2 : (u == 0) = false := by simp [hu]
      have HQ0 := Lib.hid hq; have HU := Lib.hid hu
      clear hq hu
      go_enter Tryd.func11, Tryd.ntmps11
      go_wp2_with fail
      refine (valid_yes m _ hm').mono ?_
      rintro e w1 ⟨rfl, rfl⟩
      go_wp2_with fail
      refine (class_any u A n c l owner group _ (HR.out.after (HAl.out _)) hn).mono ?_
      rintro e w2 ⟨rfl, hb2⟩
      have hb02 := (HAl.out _).trans (hb2.mono (HAl.out _).size)
      have hG2 := HG.out.after HG.out.lt hb02
      have HB := Lib.hid hb02
      have hcl := classN_le u l owner group
      generalize classN u l owner group = cl at HQ0 hcl ⊢
      clear hb2 hb02
      go_wp2_with fail
      refine (bits_yes m cl w2 hG2 hm' hcl).mono ?_
      rintro e w3 ⟨rfl, rfl⟩
      have hbl := bitsN_lt m cl
      generalize bitsN m cl = bt at HQ0 hbl ⊢
      have hand := i64_and_nat bt x (by omega) (by omega)
      by_cases h : bt &&& x = x
      · have HQ := Lib.hid (show reqN u l owner group m x = 0 by rw [HQ0.out, if_pos (.inr h)])
        have e3 : (bits .and .i64 (bt : Int) (x : Int) == (x : Int)) = true := by rw [hand, h]; simp
        clear hand h hG2
        go_wp2
        go_returns
        rw [HQ.out]
        exact ⟨rfl, HB.out⟩
      · have HQ := Lib.hid (show reqN u l owner group m x = 14 by rw [HQ0.out, if_neg (fun hh => hh.elim HU.out h)])
        have e3 : (bits .and .i64 (bt : Int) (x : Int) == (x : Int)) = false := by rw [hand]; simp; omega
        clear hand h hG2
        go_wp2
        go_returns
        rw [HQ.out]
        exact ⟨rfl, HB.out⟩
end Go.Proofs.YtgegkjjknlfkpaaDoor
