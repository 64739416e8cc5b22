/- The Reader's generic step at texts, by a contract. -/
import Derived.Test.YtbeemkamjachpaaCReader
namespace Go.Proofs.Ytbeemkamjachpaa
open Go.RowKit
set_option maxRecDepth 100000
set_option maxHeartbeats 1000000 in
theorem readText_any (g : Nat) (A : Option Addr) (n c : Nat) (l : List UInt8) (at_ f : Nat) (bx : Addr) (most : Int) (w : World) (hs : RS w g A n c l at_ f) (hb : w.cell? bx = some (.int .i64 most)) :
    Calls Try.prog 73 #[.pointer (some ⟨g, 0, none⟩), .func (.func 74) #[] #[.pointer (some bx)]] w fun e w' => RPost w g A n c l (.string (str (stepR [] at_ f (rText most (l.drop at_))).1)) (stepR [] at_ f (rText most (l.drop at_))).2.1 (stepR [] at_ f (rText most (l.drop at_))).2.2 e w' := by
  have c0 : w.cell? ⟨g, 0, none⟩ = some (.slice A n c) := hs.blk.cell 0
  have c1 : w.cell? ⟨g, 1, none⟩ = some (.int .i64 (at_ : Nat)) := hs.blk.cell 1
  have c2 : w.cell? ⟨g, 2, none⟩ = some (.int .i64 (f : Nat)) := hs.blk.cell 2
  have f1 := hs.blk.frozen 1
  have f2 := hs.blk.frozen 2
  have hle := hs.le; have hnc := hs.nc; have hcm := hs.cm
  have HS := Lib.hid hs; clear hs
  by_cases hf : f = 0
  · subst hf
    have hsz := rText_size most (l.drop at_)
    have hdl : (l.drop at_).length = n - at_ := by have := HS.out.rd.len; simp; omega
    rw [hdl] at hsz
    by_cases hc : c = at_
    · have hn0 : n - at_ = 0 := by omega
      have hd0 : l.drop at_ = [] := List.drop_of_length_le (by have := HS.out.rd.len; omega)
      have hcall := fun k : Nat => quiet_left (text1_any A 0 0 [] bx most (w.drewN k) Rd.none_ (by omega) (by omega) (by simpa using hb))
      rw [hd0] at hsz ⊢
      generalize hr : rText most [] = r at hcall hsz
      have HR := Lib.hid hr; clear hr
      obtain ⟨r1, r2, r3⟩ := r
      simp only at hsz
      have HC := Lib.hid hcall; have HN := Lib.hid hn0; have HSZ := Lib.hid hsz
      obtain rfl : c = at_ := hc
      clear hcall hn0 hd0 hsz hdl
      rcases Nat.eq_zero_or_pos r3 with h3 | h3
      · subst h3
        have h20 : r2 = 0 := by have := HSZ.out; have := HN.out; omega
        have hst := stepR_ok [] c r1 r2
        have HST := Lib.hid hst; have H20 := Lib.hid h20
        subst h20
        go_enter Try.func73, Try.ntmps73
        go_wp2
        refine wp_region_quiet_lit (by kernel_rfl) (by kernel_rfl) ?_
        repeat (go_big_quiet_step (exact HC.out _))
        refine wpQuiet_nil ?_
        rintro _ ⟨nq, rfl⟩
        have hp := HS.out.at_post nq (c + 0) hle
        have HP := Lib.hid hp; clear hp
        go_wp2
        go_returns
        rw [HST.out]
        exact ⟨rfl, HP.out⟩
      · have e3 : ((r3 : Int) != 0) = true := by simp; omega
        have hst := stepR_err [] c r1 r2 r3 (by omega)
        have HST := Lib.hid hst; clear hst
        go_enter Try.func73, Try.ntmps73
        go_wp2
        refine wp_region_quiet_lit (by kernel_rfl) (by kernel_rfl) ?_
        repeat (go_big_quiet_step (exact HC.out _))
        refine wpQuiet_nil ?_
        rintro _ ⟨nq, rfl⟩
        have hp := HS.out.err_post nq r3
        have HP := Lib.hid hp; clear hp
        go_wp2
        go_returns
        rw [HST.out]
        exact ⟨rfl, HP.out⟩
    · have hcall := fun k : Nat => quiet_left (text1_any _ (n - at_) (c - at_) (l.drop at_) bx most (w.drewN k) (HS.out.drewN k).drop (by omega) (by omega) (by simpa using hb))
      simp only [if_neg hc] at hcall
      generalize hr : rText most (l.drop at_) = r at hcall hsz
      have HR := Lib.hid hr; clear hr
      obtain ⟨r1, r2, r3⟩ := r
      simp only at hsz
      have HC := Lib.hid hcall; clear hcall hdl
      have hk2 : at_ + r2 ≤ n := by omega
      rcases Nat.eq_zero_or_pos r3 with h3 | h3
      · subst h3
        have hst := stepR_ok [] at_ r1 r2
        have HST := Lib.hid hst; clear hst
        go_enter Try.func73, Try.ntmps73
        go_wp2
        refine wp_region_quiet_lit (by kernel_rfl) (by kernel_rfl) ?_
        repeat (go_big_quiet_step (exact HC.out _))
        refine wpQuiet_nil ?_
        rintro _ ⟨nq, rfl⟩
        have hp := HS.out.at_post nq (at_ + r2) hk2
        have HP := Lib.hid hp; clear hp
        go_wp2
        go_returns
        rw [HST.out]
        exact ⟨rfl, HP.out⟩
      · have e3 : ((r3 : Int) != 0) = true := by simp; omega
        have hst := stepR_err [] at_ r1 r2 r3 (by omega)
        have HST := Lib.hid hst; clear hst
        go_enter Try.func73, Try.ntmps73
        go_wp2
        refine wp_region_quiet_lit (by kernel_rfl) (by kernel_rfl) ?_
        repeat (go_big_quiet_step (exact HC.out _))
        refine wpQuiet_nil ?_
        rintro _ ⟨nq, rfl⟩
        have hp := HS.out.err_post nq r3
        have HP := Lib.hid hp; clear hp
        go_wp2
        go_returns
        rw [HST.out]
        exact ⟨rfl, HP.out⟩
  · have e2 : ((f : Int) != 0) = true := by simp; omega
    have hst : ∀ r : List UInt8 × Nat × Nat, stepR [] at_ f r = ([], at_, f) := fun r => by unfold stepR; rw [if_pos hf]
    have HST := Lib.hid hst; clear hst
    go_enter Try.func73, Try.ntmps73
    go_wp2
    go_returns
    rw [HST.out]
    exact ⟨rfl, HS.out, Keep.refl _ _⟩
end Go.Proofs.Ytbeemkamjachpaa
