/- there, Has and Map, by contracts. -/
import Derived.Test.YtlgnhnjnkhnoiaaA7
namespace Go.Proofs.Ytlgnhnjnkhnoiaa
open Go.RowKit
set_option maxRecDepth 100000
theorem neq_frame (w : World) (a : Addr) : (binOp .neq 82 (.pointer (some a)) (.pointer none)).run Try.prog w = .ok (.bool true) w := by kernel_rfl
theorem there_out (b : Nat) (p : Int) (W : World) (hp : p < 0 ∨ 64 ≤ p) :
    Calls Try.prog 37 #[.pointer (some ⟨b, 0, none⟩), .int .i64 p] W fun e w' => e = .returned (.tuple #[.pointer none, .int .i64 2]) ∧ W = w' := by
  by_cases h0 : p < 0
  · have e0 : decide (p < 0) = true := by simp [h0]
    clear h0 hp
    go_enter Try.func37, Try.ntmps37
    go_wp2
    go_returns
    exact ⟨rfl, rfl⟩
  · have e0 : decide (p < 0) = false := by simp; omega
    have e1 : decide (64 ≤ p) = true := by simp; omega
    clear h0 hp
    go_enter Try.func37, Try.ntmps37
    go_wp2
    go_returns
    exact ⟨rfl, rfl⟩
def thereV (b p : Nat) (o : Option Nat) : Value := match o with | none => .tuple #[.pointer none, .int .i64 8] | some _ => .tuple #[.pointer (some ⟨b, 1 + p * 5, none⟩), .int .i64 0]
def ThereP (S : Option Gsrc) (b : Nat) (σ : ST) (p : Nat) (W : World) (e : Ending) (w' : World) : Prop :=
  ∃ σ', e = .returned (thereV b p (σ'.sl p).copy) ∧ needR S W.heap.size σ p σ' ∧ SpA w' b S σ' ∧ Keep (tch S b σ.fm) W w'
theorem there_in (b : Nat) (S : Option Gsrc) (σ : ST) (p : Nat) (W : World) (h : SpA W b S σ) (hp : p < 64) :
    Calls Try.prog 37 #[.pointer (some ⟨b, 0, none⟩), .int .i64 (p : Nat)] W (ThereP S b σ p W) := by
  have e0 : decide ((p : Int) < 0) = false := by simp
  have e1 : decide (64 ≤ (p : Int)) = false := by simp; omega
  have H := Lib.hid (need_ok b S σ p W h hp)
  have eqf := eql_frame
  clear h
  go_enter Try.func37, Try.ntmps37
  go_wp2_with fail
  refine H.out.mono ?_
  rintro e w1 ⟨σ1, hn, rfl, hsp, hk⟩
  have hc4 := slot_copy hsp p hp
  have HF : Hid (ThereP S b σ p W (.returned (thereV b p (σ1.sl p).copy)) w1) := Lib.hid ⟨σ1, rfl, hn, hsp, hk⟩
  clear hn hsp hk
  cases hcp : (σ1.sl p).copy with
  | none =>
    rw [hcp] at hc4 HF
    simp only [pf, Option.map_none] at hc4
    clear hcp
    go_wp2
    go_returns
    exact HF.out
  | some f =>
    rw [hcp] at hc4 HF
    simp only [pf, Option.map_some] at hc4
    clear hcp
    go_wp2
    go_returns
    exact HF.out
theorem has_out (b : Nat) (p : Int) (W : World) (hp : p < 0 ∨ 64 ≤ p) :
    Calls Try.prog 31 #[.pointer (some ⟨b, 0, none⟩), .int .i64 p] W fun e w' => e = .returned (.bool false) ∧ W = w' := by
  go_enter Try.func31, Try.ntmps31
  go_wp2_with fail
  refine (there_out b p W hp).mono ?_
  rintro e w1 ⟨rfl, rfl⟩
  clear hp
  go_wp2
  go_returns
  exact ⟨rfl, rfl⟩
theorem has_in (b : Nat) (S : Option Gsrc) (σ : ST) (p : Nat) (W : World) (h : SpA W b S σ) (hp : p < 64) :
    Calls Try.prog 31 #[.pointer (some ⟨b, 0, none⟩), .int .i64 (p : Nat)] W fun e w' => ∃ σ', e = .returned (.bool (σ'.sl p).copy.isSome) ∧ needR S W.heap.size σ p σ' ∧ SpA w' b S σ' ∧ Keep (tch S b σ.fm) W w' := by
  have H := Lib.hid (there_in b S σ p W h hp)
  clear h
  go_enter Try.func31, Try.ntmps31
  go_wp2_with fail
  refine H.out.mono ?_
  rintro e w1 ⟨σ1, rfl, hn, hsp, hk⟩
  have HF := Lib.hid (And.intro hn (And.intro hsp hk))
  clear hn hsp hk
  cases hcp : (σ1.sl p).copy with
  | none =>
    have HC := Lib.hid hcp; clear hcp
    simp only [thereV]
    go_wp2
    go_returns
    exact ⟨σ1, by rw [HC.out]; rfl, HF.out⟩
  | some f =>
    have HC := Lib.hid hcp; clear hcp
    simp only [thereV]
    go_wp2
    go_returns
    exact ⟨σ1, by rw [HC.out]; rfl, HF.out⟩
/-- A page is mapped; f: its frame. -/
def mapR (S : Option Gsrc) (n0 : Nat) (σ : ST) (p : Nat) (l : List UInt8) (σ' : ST) (ok : Bool) : Prop :=
  ∃ σ1, needR S n0 σ p σ1 ∧ (((σ1.sl p).copy ≠ none ∧ σ' = σ1 ∧ ok = false) ∨ ((σ1.sl p).copy = none ∧ ok = true ∧ ∃ f, n0 ≤ f ∧ σ1.fm f = none ∧ σ' = ⟨σ1.cn, upd σ1.sl p { σ1.sl p with own := true, changed := true, copy := some f }, upd σ1.fm f (some (fillL l))⟩))
def MapP (S : Option Gsrc) (b : Nat) (σ : ST) (p : Nat) (l : List UInt8) (W : World) (e : Ending) (w' : World) : Prop :=
  ∃ σ' ok, e = .returned (.int .i64 (if ok = true then 0 else 13)) ∧ mapR S W.heap.size σ p l σ' ok ∧ ext W.heap.size σ.fm σ'.fm ∧ SpA w' b S σ' ∧ Keep (tch S b σ.fm) W w'
theorem map_out (b : Nat) (p : Int) (s : ByteArray) (W : World) (hp : p < 0 ∨ 64 ≤ p) :
    Calls Try.prog 19 #[.pointer (some ⟨b, 0, none⟩), .int .i64 p, .string s] W fun e w' => e = .returned (.int .i64 2) ∧ W = w' := by
  by_cases h0 : p < 0
  · have e0 : decide (p < 0) = true := by simp [h0]
    clear h0 hp
    go_enter Try.func19, Try.ntmps19
    go_wp2
    go_returns
    exact ⟨rfl, rfl⟩
  · have e0 : decide (p < 0) = false := by simp; omega
    have e1 : decide (64 ≤ p) = true := by simp; omega
    clear h0 hp
    go_enter Try.func19, Try.ntmps19
    go_wp2
    go_returns
    exact ⟨rfl, rfl⟩
theorem map_long (b p : Nat) (s : ByteArray) (W : World) (hp : p < 64) (hs : 64 < s.size) :
    Calls Try.prog 19 #[.pointer (some ⟨b, 0, none⟩), .int .i64 (p : Nat), .string s] W fun e w' => e = .returned (.int .i64 5) ∧ W = w' := by
  have e0 : decide ((p : Int) < 0) = false := by simp
  have e1 : decide (64 ≤ (p : Int)) = false := by simp; omega
  have e2 : decide (64 < ((s.size : Nat) : Int)) = true := by simp; omega
  clear hp hs
  go_enter Try.func19, Try.ntmps19
  go_wp2
  go_returns
  exact ⟨rfl, rfl⟩
set_option maxHeartbeats 1000000 in
theorem map_any (b : Nat) (S : Option Gsrc) (σ : ST) (p : Nat) (l : List UInt8) (W : World) (h : SpA W b S σ) (hp : p < 64) (hl : l.length ≤ 64) :
    Calls Try.prog 19 #[.pointer (some ⟨b, 0, none⟩), .int .i64 (p : Nat), .string (str l)] W (MapP S b σ p l W) := by
  have e0 : decide ((p : Int) < 0) = false := by simp
  have e1 : decide (64 ≤ (p : Int)) = false := by simp; omega
  have e2 : decide (64 < (((str l).size : Nat) : Int)) = false := by rw [str_size]; simp; omega
  have H := Lib.hid (need_ok b S σ p W h hp)
  have neqf := neq_frame
  clear h hl
  go_enter Try.func19, Try.ntmps19
  go_wp2_with fail
  refine H.out.mono ?_
  rintro e w1 ⟨σ1, hn, rfl, hsp, hk⟩
  have hc4 := slot_copy hsp p hp
  cases hcp : (σ1.sl p).copy with
  | some f =>
    have HF := Lib.hid (show MapP S b σ p l W (.returned (.int .i64 13)) w1 from ⟨σ1, false, rfl, ⟨σ1, hn, .inl ⟨by rw [hcp]; simp, rfl, rfl⟩⟩, hn.ext_, hsp, hk⟩)
    rw [hcp] at hc4
    simp only [pf, Option.map_some] at hc4
    clear hcp hn hsp hk
    go_wp2
    go_returns
    exact HF.out
  | none =>
    have hfr : σ1.fm w1.heap.size = none := hsp.fr.fresh (Nat.le_refl _)
    have m1 := hsp.toSpMem.set p 4 { σ1.sl p with copy := some w1.heap.size } (.pointer (some ⟨w1.heap.size, 0, none⟩)) hp (by decide) rfl
    have m2 := m1.set p 3 { σ1.sl p with copy := some w1.heap.size, own := true } (.bool true) hp (by decide) (by rw [upd_same]; rfl)
    rw [upd_upd] at m2
    have m3 := m2.set p 2 { σ1.sl p with own := true, changed := true, copy := some w1.heap.size } (.bool true) hp (by decide) (by rw [upd_same]; rfl)
    rw [upd_upd] at m3
    have m4 := m3.frame (fillL l) (fillL_len _)
    rw [show (((w1.setCell ⟨b, 1 + p * 5 + 4, none⟩ (.pointer (some ⟨w1.heap.size, 0, none⟩))).setCell ⟨b, 1 + p * 5 + 3, none⟩ (.bool true)).setCell ⟨b, 1 + p * 5 + 2, none⟩ (.bool true)).heap.size = w1.heap.size by simp] at m4
    have kp := (((hk.setCell (p := ⟨b, 1 + p * 5 + 4, none⟩) (fun _ => .inl rfl) (.pointer (some ⟨w1.heap.size, 0, none⟩))).setCell (p := ⟨b, 1 + p * 5 + 3, none⟩) (fun _ => .inl rfl) (.bool true)).setCell (p := ⟨b, 1 + p * 5 + 2, none⟩) (fun _ => .inl rfl) (.bool true)).alloc (.cells (frc (fillL l)) 92)
    have hsz := hk.size
    have HF : Hid (MapP S b σ p l W (.returned (.int .i64 0)) ((((w1.setCell ⟨b, 1 + p * 5 + 4, none⟩ (.pointer (some ⟨w1.heap.size, 0, none⟩))).setCell ⟨b, 1 + p * 5 + 3, none⟩ (.bool true)).setCell ⟨b, 1 + p * 5 + 2, none⟩ (.bool true)).alloc (.cells (frc (fillL l)) 92))) := Lib.hid (by
      refine ⟨⟨σ1.cn, upd σ1.sl p { σ1.sl p with own := true, changed := true, copy := some w1.heap.size }, upd σ1.fm w1.heap.size (some (fillL l))⟩, true, rfl, ⟨σ1, hn, .inr ⟨hcp, rfl, w1.heap.size, hsz, hfr, rfl⟩⟩, fun i hi hc => ?_, ⟨m4, fun q hq f hf => ?_, fun hne q hq hkq => ?_⟩, kp⟩
      · simp only at hc
        rw [upd_ne _ _ _ _ (by omega)] at hc
        exact hn.ext_ i hi hc
      · simp only at hf ⊢
        rcases upd_cases σ1.sl p q { σ1.sl p with own := true, changed := true, copy := some w1.heap.size } with ⟨rfl, e⟩ | ⟨_, e⟩
        · rw [e] at hf; injection hf with hf; subst hf; exact ⟨_, upd_same _ _ _⟩
        · rw [e] at hf
          obtain ⟨bs, hbs⟩ := hsp.ok q hq f hf
          exact ⟨bs, by rw [upd_ne _ _ _ _ (fun e => by rw [e, hfr] at hbs; cases hbs)]; exact hbs⟩
      · simp only at hkq ⊢
        rcases upd_cases σ1.sl p q { σ1.sl p with own := true, changed := true, copy := some w1.heap.size } with ⟨rfl, e⟩ | ⟨_, e⟩
        · rw [e] at hkq; exact hsp.cn0 hne q hq hkq
        · rw [e] at hkq; exact hsp.cn0 hne q hq hkq)
    rw [hcp] at hc4
    simp only [pf, Option.map_none] at hc4
    have k2 : w1.cell? ⟨b, 1 + p * 5 + 2, none⟩ = some (.bool (σ1.sl p).changed) := hsp.slot p 2 hp (by decide)
    have k3 : w1.cell? ⟨b, 1 + p * 5 + 3, none⟩ = some (.bool (σ1.sl p).own) := hsp.slot p 3 hp (by decide)
    have fz := fun i => hsp.blk.frozen i
    have hbw : b < w1.heap.size := hsp.blk.lt
    clear hcp hn hsp hk m1 m2 m3 m4 kp hsz hfr
    go_wp2_with fail
    refine (fill_any (str l) w1).mono ?_
    rintro e w2 ⟨rfl, rfl⟩
    rw [show (str l).data.toList = l by simp [str]]
    go_wp2
    go_returns
    exact HF.out
end Go.Proofs.Ytlgnhnjnkhnoiaa
