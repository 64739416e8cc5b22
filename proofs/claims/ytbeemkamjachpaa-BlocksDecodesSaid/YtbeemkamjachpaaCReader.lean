/- The Reader: its state in memory, and its generic step read at each of its value types, by contracts. -/
import Derived.Test.YtbeemkamjachpaaCRead2
namespace Go.Proofs.Ytbeemkamjachpaa
open Go.RowKit
set_option maxRecDepth 100000
/-- A Reader in block g over the bytes l (they lie at A), at an offset, with an error. -/
structure RS (w : World) (g : Nat) (A : Option Addr) (n c : Nat) (l : List UInt8) (at_ f : Nat) : Prop where
  blk : Blk w g 110 #[.slice A n c, .int .i64 (at_ : Nat), .int .i64 (f : Nat)]
  rd : Rd w w.heap.size L8 A n l
  sep : 0 < n → ∀ ad, A = some ad → ad.block ≠ g
  le : at_ ≤ n
  nc : n ≤ c
  cm : c ≤ 9223372036854775807
/-- What a Reader's method returns, and its offset and error behind it. -/
def stepR {α : Type} (z : α) (at_ f : Nat) (r : α × Nat × Nat) : α × Nat × Nat := if f ≠ 0 then (z, at_, f) else if r.2.2 ≠ 0 then (z, at_, r.2.2) else (r.1, at_ + r.2.1, 0)
theorem RS.drop {w : World} {g n c at_ f : Nat} {A : Option Addr} {l : List UInt8} (h : RS w g A n c l at_ f) : Rd w w.heap.size L8 (if c = at_ then A else A.map (·.add at_)) (n - at_) (l.drop at_) := by
  have := h.rd.cut (k := at_) (cap := c) h.le h.nc
  simpa [L8] using this
theorem RS.kept {w w' : World} {g n c at_ f : Nat} {A : Option Addr} {l : List UInt8} {S : Nat → Prop} (h : RS w g A n c l at_ f) (hk : Keep S w w') (hg : ¬ S g) (hs : 0 < n → ∀ ad, A = some ad → ¬ S ad.block) : RS w' g A n c l at_ f :=
  ⟨h.blk.kept hk hg, (h.rd.kept hk (Nat.le_refl _) hs).more hk.size, h.sep, h.le, h.nc, h.cm⟩
theorem RS.after {w w' : World} {g n c at_ f : Nat} {A : Option Addr} {l : List UInt8} (h : RS w g A n c l at_ f) (hb : Below w.heap.size w w') : RS w' g A n c l at_ f :=
  h.kept (S := fun _ => False) (Keep.of_below hb) (fun h => h) fun _ _ _ h => h
/-- A store into the Reader's own fields. -/
theorem RS.set_err {w : World} {g n c at_ f : Nat} {A : Option Addr} {l : List UInt8} (h : RS w g A n c l at_ f) (e : Nat) : RS (w.setCell ⟨g, 2, none⟩ (.int .i64 (e : Nat))) g A n c l at_ e ∧ Keep (fun k => k = g) w (w.setCell ⟨g, 2, none⟩ (.int .i64 (e : Nat))) := by
  have hk : Keep (fun k => k = g) w (w.setCell ⟨g, 2, none⟩ (.int .i64 (e : Nat))) := (Keep.refl (fun k => k = g) w).setCell (p := ⟨g, 2, none⟩) (fun _ => rfl) _
  refine ⟨⟨by simpa using h.blk.set_ 2 (.int .i64 (e : Nat)), (h.rd.kept hk (Nat.le_refl _) h.sep).more hk.size, h.sep, h.le, h.nc, h.cm⟩, hk⟩
theorem RS.set_at {w : World} {g n c at_ f : Nat} {A : Option Addr} {l : List UInt8} (h : RS w g A n c l at_ f) (k : Nat) (hkn : k ≤ n) : RS (w.setCell ⟨g, 1, none⟩ (.int .i64 (k : Nat))) g A n c l k f ∧ Keep (fun k => k = g) w (w.setCell ⟨g, 1, none⟩ (.int .i64 (k : Nat))) := by
  have hk : Keep (fun k => k = g) w (w.setCell ⟨g, 1, none⟩ (.int .i64 (k : Nat))) := (Keep.refl (fun k => k = g) w).setCell (p := ⟨g, 1, none⟩) (fun _ => rfl) _
  refine ⟨⟨by simpa using h.blk.set_ 1 (.int .i64 (k : Nat)), (h.rd.kept hk (Nat.le_refl _) h.sep).more hk.size, h.sep, hkn, h.nc, h.cm⟩, hk⟩
theorem RS.drewN {w : World} {g n c at_ f : Nat} {A : Option Addr} {l : List UInt8} (h : RS w g A n c l at_ f) (k : Nat) : RS (w.drewN k) g A n c l at_ f := ⟨h.blk.drewN k, h.rd.drewN k, h.sep, h.le, h.nc, h.cm⟩
theorem rNum_size (m : Int) (l : List UInt8) : (rNum m l).2.1 ≤ l.length := by
  unfold rNum; split
  · exact Nat.zero_le _
  · exact grp_size l 9
theorem rSig_size (l : List UInt8) : (rSig l).2.1 ≤ l.length := by
  unfold rSig; split
  · exact Nat.zero_le _
  split
  · exact Nat.zero_le _
  · exact grp_size l 10
theorem rFlag_size (l : List UInt8) : (rFlag l).2.1 ≤ l.length := by
  unfold rFlag; split
  · exact Nat.zero_le _
  split
  · exact Nat.zero_le _
  · simp only; omega
theorem rText_size (m : Int) (l : List UInt8) : (rText m l).2.1 ≤ l.length := by
  unfold rText; split
  · exact Nat.zero_le _
  split
  · exact Nat.zero_le _
  split
  · exact Nat.zero_le _
  · simp only; omega
theorem stepR_ok {α : Type} (z : α) (at_ : Nat) (a : α) (k : Nat) : stepR z at_ 0 (a, k, 0) = (a, at_ + k, 0) := rfl
theorem stepR_err {α : Type} (z : α) (at_ : Nat) (a : α) (k e : Nat) (he : e ≠ 0) : stepR z at_ 0 (a, k, e) = (z, at_, e) := by
  show (if (0 : Nat) ≠ 0 then _ else if e ≠ 0 then (z, at_, e) else _) = _
  rw [if_neg (by simp), if_pos he]
theorem RS.err_post {w : World} {g n c at_ f : Nat} {A : Option Addr} {l : List UInt8} (h : RS w g A n c l at_ f) (nq e : Nat) : RS ((w.drewN nq).setCell ⟨g, 2, none⟩ (.int .i64 (e : Nat))) g A n c l at_ e ∧ Keep (fun k => k = g) w ((w.drewN nq).setCell ⟨g, 2, none⟩ (.int .i64 (e : Nat))) :=
  ⟨((h.drewN nq).set_err e).1, ((Keep.refl (fun k => k = g) w).drewN nq).trans ((h.drewN nq).set_err e).2 fun _ _ h => h⟩
theorem RS.at_post {w : World} {g n c at_ f : Nat} {A : Option Addr} {l : List UInt8} (h : RS w g A n c l at_ f) (nq k : Nat) (hk : k ≤ n) : RS ((w.drewN nq).setCell ⟨g, 1, none⟩ (.int .i64 (k : Nat))) g A n c l k f ∧ Keep (fun k => k = g) w ((w.drewN nq).setCell ⟨g, 1, none⟩ (.int .i64 (k : Nat))) :=
  ⟨((h.drewN nq).set_at k hk).1, ((Keep.refl (fun k => k = g) w).drewN nq).trans ((h.drewN nq).set_at k hk).2 fun _ _ h => h⟩
/-- What a method of a Reader leaves. -/
def RPost (w : World) (g : Nat) (A : Option Addr) (n c : Nat) (l : List UInt8) (v : Value) (at_ f : Nat) (e : Ending) (w' : World) : Prop :=
  e = .returned v ∧ RS w' g A n c l at_ f ∧ Keep (fun k => k = g) w w'
theorem quiet_left {P : Program} {f : FuncId} {args : Array Value} {w : World} {n : Nat} {v : Value}
    (h : Calls P f args (w.drewN n) fun e w' => e = .returned v ∧ w.drewN n = w') : Calls P f args (w.drewN n) fun e w'' => e = .returned v ∧ ∃ m, w'' = w.drewN m :=
  h.mono fun _ _ ⟨he, hm⟩ => ⟨he, n, hm.symm⟩
set_option maxHeartbeats 1000000 in
theorem readNum_any (g : Nat) (A : Option Addr) (n c : Nat) (l : List UInt8) (at_ f : Nat) (bx : Addr) (most : Int) (w : World) (hs : RS w g A n c l at_ f) (hb : w.cell? bx = some (.int .i64 most)) :
    Calls Try.prog 70 #[.pointer (some ⟨g, 0, none⟩), .func (.func 71) #[] #[.pointer (some bx)]] w fun e w' => RPost w g A n c l (.int .i64 ((stepR 0 at_ f (rNum most (l.drop at_))).1 : Nat)) (stepR 0 at_ f (rNum most (l.drop at_))).2.1 (stepR 0 at_ f (rNum most (l.drop at_))).2.2 e w' := by
  have c0 : w.cell? ⟨g, 0, none⟩ = some (.slice A n c) := hs.blk.cell 0
  have c1 : w.cell? ⟨g, 1, none⟩ = some (.int .i64 (at_ : Nat)) := hs.blk.cell 1
  have c2 : w.cell? ⟨g, 2, none⟩ = some (.int .i64 (f : Nat)) := hs.blk.cell 2
  have f1 := hs.blk.frozen 1
  have f2 := hs.blk.frozen 2
  have hle := hs.le; have hnc := hs.nc; have hcm := hs.cm
  have HS := Lib.hid hs; clear hs
  by_cases hf : f = 0
  · subst hf
    have hsz := rNum_size most (l.drop at_)
    have hdl : (l.drop at_).length = n - at_ := by have := HS.out.rd.len; simp; omega
    rw [hdl] at hsz
    by_cases hc : c = at_
    · have hn0 : n - at_ = 0 := by omega
      have hd0 : l.drop at_ = [] := List.drop_of_length_le (by have := HS.out.rd.len; omega)
      have hcall := fun k : Nat => quiet_left (num1_any A 0 0 [] bx most (w.drewN k) Rd.none_ (by omega) (by simpa using hb))
      rw [hd0] at hsz ⊢
      generalize hr : rNum most [] = r at hcall hsz
      have HR := Lib.hid hr; clear hr
      obtain ⟨r1, r2, r3⟩ := r
      simp only at hsz
      have HC := Lib.hid hcall; have HN := Lib.hid hn0; have HSZ := Lib.hid hsz
      obtain rfl : c = at_ := hc
      clear hcall hn0 hd0 hsz hdl
      rcases Nat.eq_zero_or_pos r3 with h3 | h3
      · subst h3
        have h20 : r2 = 0 := by have := HSZ.out; have := HN.out; omega
        have hst := stepR_ok 0 c r1 r2
        have HST := Lib.hid hst; have H20 := Lib.hid h20
        subst h20
        go_enter Try.func70, Try.ntmps70
        go_wp2
        refine wp_region_quiet_lit (by kernel_rfl) (by kernel_rfl) ?_
        repeat (go_big_quiet_step (exact HC.out _))
        refine wpQuiet_nil ?_
        rintro _ ⟨nq, rfl⟩
        have hp := HS.out.at_post nq (c + 0) hle
        have HP := Lib.hid hp; clear hp
        go_wp2
        go_returns
        rw [HST.out]
        exact ⟨rfl, HP.out⟩
      · have e3 : ((r3 : Int) != 0) = true := by simp; omega
        have hst := stepR_err 0 c r1 r2 r3 (by omega)
        have HST := Lib.hid hst; clear hst
        go_enter Try.func70, Try.ntmps70
        go_wp2
        refine wp_region_quiet_lit (by kernel_rfl) (by kernel_rfl) ?_
        repeat (go_big_quiet_step (exact HC.out _))
        refine wpQuiet_nil ?_
        rintro _ ⟨nq, rfl⟩
        have hp := HS.out.err_post nq r3
        have HP := Lib.hid hp; clear hp
        go_wp2
        go_returns
        rw [HST.out]
        exact ⟨rfl, HP.out⟩
    · have hcall := fun k : Nat => quiet_left (num1_any _ (n - at_) (c - at_) (l.drop at_) bx most (w.drewN k) (HS.out.drewN k).drop (by omega) (by simpa using hb))
      simp only [if_neg hc] at hcall
      generalize hr : rNum most (l.drop at_) = r at hcall hsz
      have HR := Lib.hid hr; clear hr
      obtain ⟨r1, r2, r3⟩ := r
      simp only at hsz
      have HC := Lib.hid hcall; clear hcall hdl
      have hk2 : at_ + r2 ≤ n := by omega
      rcases Nat.eq_zero_or_pos r3 with h3 | h3
      · subst h3
        have hst := stepR_ok 0 at_ r1 r2
        have HST := Lib.hid hst; clear hst
        go_enter Try.func70, Try.ntmps70
        go_wp2
        refine wp_region_quiet_lit (by kernel_rfl) (by kernel_rfl) ?_
        repeat (go_big_quiet_step (exact HC.out _))
        refine wpQuiet_nil ?_
        rintro _ ⟨nq, rfl⟩
        have hp := HS.out.at_post nq (at_ + r2) hk2
        have HP := Lib.hid hp; clear hp
        go_wp2
        go_returns
        rw [HST.out]
        exact ⟨rfl, HP.out⟩
      · have e3 : ((r3 : Int) != 0) = true := by simp; omega
        have hst := stepR_err 0 at_ r1 r2 r3 (by omega)
        have HST := Lib.hid hst; clear hst
        go_enter Try.func70, Try.ntmps70
        go_wp2
        refine wp_region_quiet_lit (by kernel_rfl) (by kernel_rfl) ?_
        repeat (go_big_quiet_step (exact HC.out _))
        refine wpQuiet_nil ?_
        rintro _ ⟨nq, rfl⟩
        have hp := HS.out.err_post nq r3
        have HP := Lib.hid hp; clear hp
        go_wp2
        go_returns
        rw [HST.out]
        exact ⟨rfl, HP.out⟩
  · have e2 : ((f : Int) != 0) = true := by simp; omega
    have hst : ∀ r : Nat × Nat × Nat, stepR 0 at_ f r = (0, at_, f) := fun r => by unfold stepR; rw [if_pos hf]
    have HST := Lib.hid hst; clear hst
    go_enter Try.func70, Try.ntmps70
    go_wp2
    go_returns
    rw [HST.out]
    exact ⟨rfl, HS.out, Keep.refl _ _⟩
end Go.Proofs.Ytbeemkamjachpaa
