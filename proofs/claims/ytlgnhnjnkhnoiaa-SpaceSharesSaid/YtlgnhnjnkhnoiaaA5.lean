/- change, by a contract. -/
import Derived.Test.YtlgnhnjnkhnoiaaA4
namespace Go.Proofs.Ytlgnhnjnkhnoiaa
open Go.RowKit
set_option maxRecDepth 100000
def chgSl (s : Sl) (f : Nat) : Sl := if s.own = true then { s with changed := true } else { s with changed := true, own := true, copy := some f }
def chgFm (s : Sl) (fm : FM) (f : Nat) (bs : List UInt8) : FM := if s.own = true then fm else upd fm f (some bs)
theorem store_new (W : World) (bs : List UInt8) (hl : bs.length = 64) : (storeCells ⟨W.heap.size, 0, none⟩ (frc bs).toList).run Try.prog (W.alloc (.cells Z64 92)) = .ok () (W.alloc (.cells (frc bs) 92)) := by
  have h := run_storeCells_at Try.prog W.heap.size 0 92 (frc bs).toList 0 Z64 (W.alloc (.cells Z64 92)) (heap_alloc_new W _) (by simp [frc, hl, Z64]) (by
    intro v hv
    simp only [frc, List.mem_map] at hv
    obtain ⟨x, _, rfl⟩ := hv
    rfl)
  rw [h]
  have e : (Z64.toList.take (0 + 0) ++ (frc bs).toList ++ Z64.toList.drop (0 + 0 + (frc bs).toList.length)).toArray = frc bs := by
    have : (frc bs).toList.length = 64 := by simp [frc, hl]
    rw [this]
    simp [Z64, frc]
  rw [e, setRow_alloc]
theorem chg_ok {σ : ST} {p f : Nat} {bs : List UInt8} (hfr : σ.fm f = none) (h : ∀ q, q < 64 → ∀ f, (σ.sl q).copy = some f → ∃ bs, σ.fm f = some bs) :
    ∀ q, q < 64 → ∀ f', (upd σ.sl p (chgSl (σ.sl p) f) q).copy = some f' → ∃ cs, chgFm (σ.sl p) σ.fm f bs f' = some cs := by
  intro q hq f' hf'
  unfold chgFm
  rcases upd_cases σ.sl p q (chgSl (σ.sl p) f) with ⟨rfl, e⟩ | ⟨_, e⟩
  · rw [e] at hf'
    unfold chgSl at hf'
    by_cases ho : (σ.sl q).own = true
    · rw [if_pos ho] at hf' ⊢; exact h q hq f' hf'
    · rw [if_neg ho] at hf' ⊢
      injection hf' with hf'
      subst hf'
      exact ⟨bs, upd_same _ _ _⟩
  · rw [e] at hf'
    obtain ⟨cs, hcs⟩ := h q hq f' hf'
    by_cases ho : (σ.sl p).own = true
    · rw [if_pos ho]; exact ⟨cs, hcs⟩
    · rw [if_neg ho, upd_ne _ _ _ _ (fun e => by rw [e, hfr] at hcs; cases hcs)]; exact ⟨cs, hcs⟩
theorem chg_known {σ : ST} {p f : Nat} (hk : (chgSl (σ.sl p) f).known = (σ.sl p).known) {cn : List (Int × Value)} (h : ∀ q : Nat, q < 64 → (σ.sl q).known = false → iget cn q = none) : ∀ q : Nat, q < 64 → (upd σ.sl p (chgSl (σ.sl p) f) q).known = false → iget cn q = none := by
  intro q hq hkq
  rcases upd_cases σ.sl p q (chgSl (σ.sl p) f) with ⟨rfl, e⟩ | ⟨_, e⟩
  · rw [e, hk] at hkq; exact h q hq hkq
  · rw [e] at hkq; exact h q hq hkq
theorem chgSl_known (s : Sl) (f : Nat) : (chgSl s f).known = s.known := by unfold chgSl; split <;> rfl
set_option maxHeartbeats 1000000 in
theorem change_any (b : Nat) (S : Option Gsrc) (σ : ST) (p f0 : Nat) (bs : List UInt8) (W : World) (h : SpA W b S σ) (hp : p < 64) (hc : (σ.sl p).copy = some f0) (hf : σ.fm f0 = some bs) :
    Calls Try.prog 35 #[.pointer (some ⟨b, 1 + p * 5, none⟩)] W fun e w' => ∃ f v, W.heap.size ≤ f ∧ σ.fm f = none ∧ e = .returned v ∧ SpA w' b S ⟨σ.cn, upd σ.sl p (chgSl (σ.sl p) f), chgFm (σ.sl p) σ.fm f bs⟩ ∧ Keep (tch S b σ.fm) W w' := by
  have k2 : W.cell? ⟨b, 1 + p * 5 + 2, none⟩ = some (.bool (σ.sl p).changed) := h.slot p 2 hp (by decide)
  have k3 : W.cell? ⟨b, 1 + p * 5 + 3, none⟩ = some (.bool (σ.sl p).own) := h.slot p 3 hp (by decide)
  have k4 : W.cell? ⟨b, 1 + p * 5 + 4, none⟩ = some (pf (σ.sl p).copy) := h.slot p 4 hp (by decide)
  have fz := fun i => h.blk.frozen i
  rw [hc] at k4
  simp only [pf, Option.map_some] at k4
  cases ho : (σ.sl p).own
  · rw [ho] at k3
    have hz := z92
    have hbl := (h.fr.at_ f0 bs hf).2.far (p := ⟨b, 1 + p * 5 + 2, none⟩) ((h.fr.at_ f0 bs hf).2.ne_ h.blk (by decide)) (.bool true)
    have hl := (h.fr.at_ f0 bs hf).1
    have hi : (Try.prog.info? 92).map (·.size) = some (frc bs).size := by
      rw [show (frc bs).size = 64 by simp [frc, hl]]; kernel_rfl
    have HBl := Lib.hid hbl; have HI := Lib.hid hi
    clear hbl hi
    have hsz : (frc bs).size = 64 := by simp [frc, hl]
    have hst := store_new (W.setCell ⟨b, 1 + p * 5 + 2, none⟩ (.bool true)) bs hl
    rw [show (W.setCell ⟨b, 1 + p * 5 + 2, none⟩ (.bool true)).heap.size = W.heap.size by simp] at hst
    have hbw : b < W.heap.size := h.blk.lt
    have m1 := h.toSpMem.set p 2 { σ.sl p with changed := true } (.bool true) hp (by decide) rfl
    have m2 := m1.set p 4 { σ.sl p with changed := true, copy := some W.heap.size } (.pointer (some ⟨W.heap.size, 0, none⟩)) hp (by decide) (by rw [upd_same]; rfl)
    rw [upd_upd] at m2
    have m3 := m2.set p 3 { σ.sl p with changed := true, copy := some W.heap.size, own := true } (.bool true) hp (by decide) (by rw [upd_same]; rfl)
    rw [upd_upd] at m3
    have m4 := m3.frame bs hl
    rw [show (((W.setCell ⟨b, 1 + p * 5 + 2, none⟩ (.bool true)).setCell ⟨b, 1 + p * 5 + 4, none⟩ (.pointer (some ⟨W.heap.size, 0, none⟩))).setCell ⟨b, 1 + p * 5 + 3, none⟩ (.bool true)).heap.size = W.heap.size by simp] at m4
    have kp := ((((Keep.refl (tch S b σ.fm) W).setCell (p := ⟨b, 1 + p * 5 + 2, none⟩) (fun _ => .inl rfl) (.bool true)).setCell (p := ⟨b, 1 + p * 5 + 4, none⟩) (fun _ => .inl rfl) (.pointer (some ⟨W.heap.size, 0, none⟩))).setCell (p := ⟨b, 1 + p * 5 + 3, none⟩) (fun _ => .inl rfl) (.bool true)).alloc (.cells (frc bs) 92)
    have hfr : σ.fm W.heap.size = none := h.fr.fresh (Nat.le_refl _)
    have HF : Hid (SpA ((((W.setCell ⟨b, 1 + p * 5 + 2, none⟩ (.bool true)).setCell ⟨b, 1 + p * 5 + 4, none⟩ (.pointer (some ⟨W.heap.size, 0, none⟩))).setCell ⟨b, 1 + p * 5 + 3, none⟩ (.bool true)).alloc (.cells (frc bs) 92)) b S ⟨σ.cn, upd σ.sl p (chgSl (σ.sl p) W.heap.size), chgFm (σ.sl p) σ.fm W.heap.size bs⟩) := Lib.hid (by
      refine ⟨?_, chg_ok hfr h.ok, fun hn => chg_known (chgSl_known _ _) (h.cn0 hn)⟩
      unfold chgSl chgFm
      rw [if_neg (by rw [ho]; decide), if_neg (by rw [ho]; decide)]
      exact m4)
    have HK := Lib.hid kp; have HFr := Lib.hid hfr
    clear m1 m2 m3 m4 kp h hf hc ho hfr hl
    go_enter Try.func35, Try.ntmps35
    go_wp2_with (refine wpList_load_row rfl 92 (.tmp 15) rfl f0 rfl 92 (frc bs) (0, 0) _ HBl.out Try.underlying92 rfl HI.out ?_)
    go_end0
    exact ⟨W.heap.size, _, Nat.le_refl _, HFr.out, rfl, HF.out, HK.out⟩
  · rw [ho] at k3
    have m1 := h.toSpMem.set p 2 { σ.sl p with changed := true } (.bool true) hp (by decide) rfl
    have kp := (Keep.refl (tch S b σ.fm) W).setCell (p := ⟨b, 1 + p * 5 + 2, none⟩) (fun _ => .inl rfl) (.bool true)
    have hfr : σ.fm W.heap.size = none := h.fr.fresh (Nat.le_refl _)
    have HF : Hid (SpA (W.setCell ⟨b, 1 + p * 5 + 2, none⟩ (.bool true)) b S ⟨σ.cn, upd σ.sl p (chgSl (σ.sl p) W.heap.size), chgFm (σ.sl p) σ.fm W.heap.size bs⟩) := Lib.hid (by
      refine ⟨?_, chg_ok hfr h.ok, fun hn => chg_known (chgSl_known _ _) (h.cn0 hn)⟩
      unfold chgSl chgFm
      rw [if_pos ho, if_pos ho]
      exact m1)
    have HK := Lib.hid kp; have HFr := Lib.hid hfr
    clear m1 kp h hf hc ho hfr
    go_enter Try.func35, Try.ntmps35
    go_wp2
    go_end0
    exact ⟨W.heap.size, _, Nat.le_refl _, HFr.out, rfl, HF.out, HK.out⟩
end Go.Proofs.Ytlgnhnjnkhnoiaa
