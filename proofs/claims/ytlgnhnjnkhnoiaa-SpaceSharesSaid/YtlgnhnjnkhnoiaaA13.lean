/- Unmap, SetWord and what lies at negative addresses, by contracts. -/
import Derived.Test.YtlgnhnjnkhnoiaaNil
namespace Go.Proofs.Ytlgnhnjnkhnoiaa
open Go.RowKit
set_option maxRecDepth 100000
theorem reach_neg (b n : Nat) (a : Int) (W : World) (ha : a < 0) :
    Calls Try.prog 34 #[.pointer (some ⟨b, 0, none⟩), .int .i64 a, .int .i64 (n : Nat)] W fun e w' => e = .returned (.int .i64 (if n = 0 then 0 else 23)) ∧ W = w' := by
  by_cases h0 : n = 0
  · have e0 : (((n : Nat) : Int) == 0) = true := by simp [h0]
    rw [if_pos h0]
    clear h0
    go_enter Try.func34, Try.ntmps34
    go_wp2
    go_returns
    exact ⟨rfl, rfl⟩
  · have e0 : (((n : Nat) : Int) == 0) = false := by simp [h0]
    have e1 : decide (a < 0) = true := by simp [ha]
    rw [if_neg h0]
    clear h0 ha
    go_enter Try.func34, Try.ntmps34
    go_wp2
    go_returns
    exact ⟨rfl, rfl⟩
theorem store_neg (b : Nat) (a : Int) (s : ByteArray) (W : World) (ha : a < 0) :
    Calls Try.prog 16 #[.pointer (some ⟨b, 0, none⟩), .int .i64 a, .string s] W fun e w' => e = .returned (.int .i64 (if s.size = 0 then 0 else 23)) ∧ W = w' := by
  have hR := reach_neg b s.size a W ha
  by_cases h0 : s.size = 0
  · rw [if_pos h0]
    rw [if_pos h0] at hR
    have HR := Lib.hid hR
    have HZ := Lib.hid (show ((s.size : Nat) : Int) = 0 by omega)
    clear hR h0 ha
    go_enter Try.func16, Try.ntmps16
    go_wp2_with fail
    refine HR.out.mono ?_
    rintro e w' ⟨rfl, rfl⟩
    have hz := HZ.out
    go_wp2
    go_loop [22] (fun v => v = .int .i64 0) (fun v => 0 - (intOf v).toNat)
    case atStart => rfl
    case round =>
      subst hrel
      go_wp2
      go_returns
      exact ⟨rfl, rfl⟩
  · rw [if_neg h0]
    rw [if_neg h0] at hR
    have HR := Lib.hid hR
    clear hR h0 ha
    go_enter Try.func16, Try.ntmps16
    go_wp2_with fail
    refine HR.out.mono ?_
    rintro e w' ⟨rfl, rfl⟩
    go_wp2
    go_returns
    exact ⟨rfl, rfl⟩
def unmapR (S : Option Gsrc) (n0 : Nat) (σ : ST) (p : Nat) (σ' : ST) (ok : Bool) : Prop :=
  ∃ σ1, needR S n0 σ p σ1 ∧ (((σ1.sl p).copy = none ∧ σ' = σ1 ∧ ok = false) ∨ ((σ1.sl p).copy ≠ none ∧ ok = true ∧ σ' = ⟨σ1.cn, upd σ1.sl p { σ1.sl p with copy := none, own := false, changed := true }, σ1.fm⟩))
def UnmapP (S : Option Gsrc) (b : Nat) (σ : ST) (p : Nat) (W : World) (e : Ending) (w' : World) : Prop :=
  ∃ σ' ok, e = .returned (.int .i64 (if ok = true then 0 else 8)) ∧ unmapR S W.heap.size σ p σ' ok ∧ ext W.heap.size σ.fm σ'.fm ∧ SpA w' b S σ' ∧ Keep (tch S b σ.fm) W w'
theorem unmap_out (b : Nat) (p : Int) (W : World) (hp : p < 0 ∨ 64 ≤ p) :
    Calls Try.prog 20 #[.pointer (some ⟨b, 0, none⟩), .int .i64 p] W fun e w' => e = .returned (.int .i64 2) ∧ W = w' := by
  go_enter Try.func20, Try.ntmps20
  go_wp2_with fail
  refine (there_out b p W hp).mono ?_
  rintro e w1 ⟨rfl, rfl⟩
  clear hp
  go_wp2
  go_returns
  exact ⟨rfl, rfl⟩
set_option maxHeartbeats 1000000 in
theorem unmap_in (b : Nat) (S : Option Gsrc) (σ : ST) (p : Nat) (W : World) (h : SpA W b S σ) (hp : p < 64) :
    Calls Try.prog 20 #[.pointer (some ⟨b, 0, none⟩), .int .i64 (p : Nat)] W (UnmapP S b σ p W) := by
  have H := Lib.hid (there_in b S σ p W h hp)
  clear h
  go_enter Try.func20, Try.ntmps20
  go_wp2_with fail
  refine H.out.mono ?_
  rintro e w1 ⟨σ1, rfl, hn, hsp, hk⟩
  cases hcp : (σ1.sl p).copy with
  | none =>
    have HF := Lib.hid (show UnmapP S b σ p W (.returned (.int .i64 8)) w1 from ⟨σ1, false, rfl, ⟨σ1, hn, .inl ⟨hcp, rfl, rfl⟩⟩, hn.ext_, hsp, hk⟩)
    clear hcp hn hsp hk
    simp only [thereV]
    go_wp2
    go_returns
    exact HF.out
  | some f =>
    have m1 := hsp.toSpMem.set p 4 { σ1.sl p with copy := none } (.pointer none) hp (by decide) rfl
    have m2 := m1.set p 3 { σ1.sl p with copy := none, own := false } (.bool false) hp (by decide) (by rw [upd_same]; rfl)
    rw [upd_upd] at m2
    have m3 := m2.set p 2 { σ1.sl p with copy := none, own := false, changed := true } (.bool true) hp (by decide) (by rw [upd_same]; rfl)
    rw [upd_upd] at m3
    have kp := ((hk.setCell (p := ⟨b, 1 + p * 5 + 4, none⟩) (fun _ => .inl rfl) (.pointer none)).setCell (p := ⟨b, 1 + p * 5 + 3, none⟩) (fun _ => .inl rfl) (.bool false)).setCell (p := ⟨b, 1 + p * 5 + 2, none⟩) (fun _ => .inl rfl) (.bool true)
    have HF : Hid (UnmapP S b σ p W (.returned (.int .i64 0)) (((w1.setCell ⟨b, 1 + p * 5 + 4, none⟩ (.pointer none)).setCell ⟨b, 1 + p * 5 + 3, none⟩ (.bool false)).setCell ⟨b, 1 + p * 5 + 2, none⟩ (.bool true))) := Lib.hid (by
      refine ⟨⟨σ1.cn, upd σ1.sl p { σ1.sl p with copy := none, own := false, changed := true }, σ1.fm⟩, true, rfl, ⟨σ1, hn, .inr ⟨by rw [hcp]; simp, rfl, rfl⟩⟩, hn.ext_, ⟨m3, fun q hq f hf => ?_, fun hne q hq hkq => ?_⟩, kp⟩
      · rcases upd_cases σ1.sl p q { σ1.sl p with copy := none, own := false, changed := true } with ⟨rfl, e⟩ | ⟨_, e⟩
        · simp only [e] at hf; cases hf
        · simp only [e] at hf; exact hsp.ok q hq f hf
      · rcases upd_cases σ1.sl p q { σ1.sl p with copy := none, own := false, changed := true } with ⟨rfl, e⟩ | ⟨_, e⟩
        · simp only [e] at hkq; exact hsp.cn0 hne q hq hkq
        · simp only [e] at hkq; exact hsp.cn0 hne q hq hkq)
    have hc4 := slot_copy hsp p hp
    have k2 : w1.cell? ⟨b, 1 + p * 5 + 2, none⟩ = some (.bool (σ1.sl p).changed) := hsp.slot p 2 hp (by decide)
    have k3 : w1.cell? ⟨b, 1 + p * 5 + 3, none⟩ = some (.bool (σ1.sl p).own) := hsp.slot p 3 hp (by decide)
    have fz := fun i => hsp.blk.frozen i
    clear hcp hn hsp hk m1 m2 m3 kp
    simp only [thereV]
    go_wp2
    go_returns
    exact HF.out
theorem setword_any (b : Nat) (S : Option Gsrc) (σ : ST) (at_ x : Nat) (W : World) (h : SpA W b S σ) (ha : at_ ≤ 9223372036854775807) (hx : x < 4294967296) :
    Calls Try.prog 18 #[.pointer (some ⟨b, 0, none⟩), .int .i64 (at_ : Nat), .int .u32 (x : Nat)] W fun e w' => ∃ W1, Below W.heap.size W W1 ∧ StoreP S b σ at_ (le4 x) W1 e w' := by
  have HB := Lib.hid (fun o => (Below.refl W.heap.size W).alloc (Nat.le_refl _) o)
  have hcv := le4_conv x W hx
  have hx' : (x : Int) < 4294967296 := by omega
  have H := Lib.hid h
  clear hx h
  go_enter Try.func18, Try.ntmps18
  go_wp2_with fail
  refine (store_any b S σ at_ (le4 x) _ (H.out.after (HB.out _)) ha (by simp [le4])).mono ?_
  rintro e w' ⟨σ1, σ2, ok, rfl, h1, h2, h3, h4, h5⟩
  have HP := Lib.hid (show StoreP S b σ at_ (le4 x) _ (.returned (.int .i64 (if ok = true then 0 else 23))) w' from ⟨σ1, σ2, ok, rfl, h1, h2, h3, h4, h5⟩)
  clear h1 h2 h3 h4 h5
  generalize (if ok = true then (0 : Int) else 23) = rr at HP ⊢
  go_wp2
  go_returns
  exact ⟨_, HB.out _, HP.out⟩
theorem setword_neg (b x : Nat) (a : Int) (W : World) (ha : a < 0) (hx : x < 4294967296) :
    Calls Try.prog 18 #[.pointer (some ⟨b, 0, none⟩), .int .i64 a, .int .u32 (x : Nat)] W fun e w' => e = .returned (.int .i64 23) ∧ Below W.heap.size W w' := by
  have HB := Lib.hid (fun o => (Below.refl W.heap.size W).alloc (Nat.le_refl _) o)
  have hcv := le4_conv x W hx
  have hx' : (x : Int) < 4294967296 := by omega
  have HA := Lib.hid ha
  clear hx ha
  go_enter Try.func18, Try.ntmps18
  go_wp2_with fail
  refine (store_neg b a (str (le4 x)) _ HA.out).mono ?_
  rintro e w' ⟨rfl, rfl⟩
  rw [if_neg (show ¬ (str (le4 x)).size = 0 by rw [str_size]; simp [le4])]
  go_wp2
  go_returns
  exact ⟨rfl, HB.out _⟩
end Go.Proofs.Ytlgnhnjnkhnoiaa
