/- need, by a contract. -/
import Derived.Test.YtlgnhnjnkhnoiaaA2
namespace Go.Proofs.Ytlgnhnjnkhnoiaa
open Go.RowKit
set_option maxRecDepth 100000
abbrev FM := Nat → Option (List UInt8)
def SrcAt (W : World) (S : Option Gsrc) (cn : List (Int × Value)) : Prop := ∀ g, S = some g → GAt W g cn
structure FrOk (W : World) (fm : FM) : Prop where
  at_ : ∀ f bs, fm f = some bs → bs.length = 64 ∧ Blk W f 92 (frc bs)
theorem FrOk.fresh {W : World} {fm : FM} (h : FrOk W fm) {n : Nat} (hn : W.heap.size ≤ n) : fm n = none := by
  cases hf : fm n with
  | none => rfl
  | some bs => have := (h.at_ n bs hf).2.lt; omega
theorem IM.ne_blk {W : World} {b g : Nat} {l : List (Int × Value)} {t : TypeId} {cs : Array Value} (h : IM W b l) (k : Blk W g t cs) : b ≠ g := by
  rintro rfl
  obtain ⟨es, clk, h1, _⟩ := h
  unfold Blk at k
  rw [h1] at k
  cases k
theorem FrOk.keep {W W' : World} {fm : FM} {S : Nat → Prop} (h : FrOk W fm) (hk : Keep S W W') (hs : ∀ f bs, fm f = some bs → ¬ S f) : FrOk W' fm :=
  ⟨fun f bs hf => ⟨(h.at_ f bs hf).1, (h.at_ f bs hf).2.kept hk (hs f bs hf)⟩⟩
theorem FrOk.new {W : World} {fm : FM} (h : FrOk W fm) (bs : List UInt8) (hl : bs.length = 64) : FrOk (W.alloc (.cells (frc bs) 92)) (upd fm W.heap.size (some bs)) :=
  ⟨fun f cs hf => by
    unfold upd at hf
    by_cases e : f = W.heap.size
    · subst e
      rw [if_pos rfl] at hf
      injection hf with hf
      subst hf
      exact ⟨hl, Blk.new W 92 _⟩
    · rw [if_neg e] at hf
      exact ⟨(h.at_ f cs hf).1, (h.at_ f cs hf).2.alloc _⟩⟩
/-- The memory of a space: its cells, its source, the frames. -/
structure SpMem (W : World) (b : Nat) (S : Option Gsrc) (cn : List (Int × Value)) (sl : SS) (fm : FM) : Prop where
  blk : Blk W b 87 (spc (srcV S) sl)
  src : SrcAt W S cn
  fr : FrOk W fm
theorem GAt.setCell {W : World} {g : Gsrc} {cn : List (Int × Value)} (h : GAt W g cn) {b i : Nat} {t : TypeId} {cs : Array Value} (hb : Blk W b t cs) (ht : (30 : TypeId) ≠ t) (v : Value) : GAt (W.setCell ⟨b, i, none⟩ v) g cn :=
  ⟨h.blk.far (h.blk.ne_ hb ht) v, h.im.setCell (h.im.ne_blk hb) v, h.ic.setCell (h.ic.ne_blk hb) v, h.ne, h.na, h.str⟩
theorem GAt.alloc {W : World} {g : Gsrc} {cn : List (Int × Value)} (h : GAt W g cn) (o : Obj) : GAt (W.alloc o) g cn := ⟨h.blk.alloc o, h.im.alloc o, h.ic.alloc o, h.ne, h.na, h.str⟩
theorem GAt.after {W W' : World} {g : Gsrc} {cn : List (Int × Value)} (h : GAt W g cn) (hb : Below W.heap.size W W') : GAt W' g cn := ⟨h.blk.after hb, h.im.after hb, h.ic.after hb, h.ne, h.na, h.str⟩
section
variable {W W' : World} {b : Nat} {S : Option Gsrc} {cn : List (Int × Value)} {sl : SS} {fm : FM}
theorem SpMem.slot (h : SpMem W b S cn sl fm) (p j : Nat) (hp : p < 64) (hj : j < 5) : W.cell? ⟨b, 1 + p * 5 + j, none⟩ = (LSl.enc (sl p))[j]? :=
  (h.blk.cell _).trans (spc_get _ _ p j hp hj)
theorem SpMem.set (h : SpMem W b S cn sl fm) (p j : Nat) (s : Sl) (v : Value) (hp : p < 64) (hj : j < 5) (hs : LSl.enc s = (LSl.enc (sl p)).set j v) : SpMem (W.setCell ⟨b, 1 + p * 5 + j, none⟩ v) b S cn (upd sl p s) fm :=
  ⟨by have := h.blk.set_ (1 + p * 5 + j) v; rwa [spc_set _ _ p j s v hp hj hs] at this, fun g hg => (h.src g hg).setCell h.blk (by decide) v,
    ⟨fun f bs hf => ⟨(h.fr.at_ f bs hf).1, (h.fr.at_ f bs hf).2.far ((h.fr.at_ f bs hf).2.ne_ h.blk (by decide)) v⟩⟩⟩
theorem SpMem.drew (h : SpMem W b S cn sl fm) : SpMem W.drew b S cn sl fm := ⟨h.blk, fun g hg => ⟨(h.src g hg).blk, (h.src g hg).im, (h.src g hg).ic, (h.src g hg).ne, (h.src g hg).na, (h.src g hg).str⟩, ⟨h.fr.at_⟩⟩
theorem SpMem.after (h : SpMem W b S cn sl fm) (hb : Below W.heap.size W W') : SpMem W' b S cn sl fm :=
  ⟨h.blk.after hb, fun g hg => (h.src g hg).after hb, ⟨fun f bs hf => ⟨(h.fr.at_ f bs hf).1, (h.fr.at_ f bs hf).2.after hb⟩⟩⟩
theorem SpMem.grown (h : SpMem W b S cn sl fm) {g : Gsrc} {cn' : List (Int × Value)} (hS : S = some g) (hg : W.grownBy W' (some g.bc)) (hn : GAt W' g cn') : SpMem W' b S cn' sl fm := by
  have hic := (h.src g hS).ic
  refine ⟨h.blk.grown hg (fun e => by injection e with e; exact hic.ne_blk h.blk e.symm), fun g' hg' => by rw [hS] at hg'; injection hg' with e; subst e; exact hn,
    ⟨fun f bs hf => ⟨(h.fr.at_ f bs hf).1, (h.fr.at_ f bs hf).2.grown hg (fun e => by injection e with e; exact hic.ne_blk (h.fr.at_ f bs hf).2 e.symm)⟩⟩⟩
theorem SpMem.frame (h : SpMem W b S cn sl fm) (bs : List UInt8) (hl : bs.length = 64) : SpMem (W.alloc (.cells (frc bs) 92)) b S cn sl (upd fm W.heap.size (some bs)) :=
  ⟨h.blk.alloc _, fun g hg => (h.src g hg).alloc _, h.fr.new bs hl⟩
end
/-- Block b is a space with the source S, which has been asked cn, and which knows sl of its pages; fm: all frames. -/
structure SpAt (W : World) (b : Nat) (S : Option Gsrc) (cn : List (Int × Value)) (sl : SS) (fm : FM) : Prop extends SpMem W b S cn sl fm where
  ok : ∀ p, p < 64 → ∀ f, (sl p).copy = some f → ∃ bs, fm f = some bs
  cn0 : S ≠ none → ∀ p : Nat, p < 64 → (sl p).known = false → iget cn p = none
/-- need: what is known then; f: the new frame. -/
def needF (S : Option Gsrc) (sl : SS) (fm : FM) (p f : Nat) : SS × FM :=
  if (sl p).known = true then (sl, fm) else
  match S with
  | none => (upd sl p { sl p with known := true }, fm)
  | some g => if (sayS g p).2 = true then (upd sl p { sl p with known := true, asked := true, own := true, copy := some f }, upd fm f (some (fillL (sayS g p).1.data.toList))) else (upd sl p { sl p with known := true, asked := true }, fm)
def needC (S : Option Gsrc) (sl : SS) (cn : List (Int × Value)) (p : Nat) : List (Int × Value) :=
  if (sl p).known = true then cn else match S with | none => cn | some _ => iput cn p (.int .i64 1)
theorem needF_known {S : Option Gsrc} {sl : SS} {fm : FM} {p f : Nat} (hk : (sl p).known = true) : needF S sl fm p f = (sl, fm) := by unfold needF; rw [if_pos hk]
theorem needF_none {sl : SS} {fm : FM} {p f : Nat} (hk : (sl p).known = false) : needF none sl fm p f = (upd sl p { sl p with known := true }, fm) := by unfold needF; rw [if_neg (by rw [hk]; decide)]
theorem needF_yes {g : Gsrc} {sl : SS} {fm : FM} {p f : Nat} (hk : (sl p).known = false) (hs : (sayS g p).2 = true) :
    needF (some g) sl fm p f = (upd sl p { sl p with known := true, asked := true, own := true, copy := some f }, upd fm f (some (fillL (sayS g p).1.data.toList))) := by unfold needF; rw [if_neg (by rw [hk]; decide)]; simp only; rw [if_pos hs]
theorem needF_no {g : Gsrc} {sl : SS} {fm : FM} {p f : Nat} (hk : (sl p).known = false) (hs : (sayS g p).2 = false) :
    needF (some g) sl fm p f = (upd sl p { sl p with known := true, asked := true }, fm) := by unfold needF; rw [if_neg (by rw [hk]; decide)]; simp only; rw [if_neg (by rw [hs]; decide)]
theorem needC_known {S : Option Gsrc} {sl : SS} {cn : List (Int × Value)} {p : Nat} (hk : (sl p).known = true) : needC S sl cn p = cn := by unfold needC; rw [if_pos hk]
theorem needC_none {sl : SS} {cn : List (Int × Value)} {p : Nat} : needC none sl cn p = cn := by unfold needC; split <;> rfl
theorem needC_some {g : Gsrc} {sl : SS} {cn : List (Int × Value)} {p : Nat} (hk : (sl p).known = false) : needC (some g) sl cn p = iput cn p (.int .i64 1) := by unfold needC; rw [if_neg (by rw [hk]; decide)]
theorem upd_cases {α : Type} (f : Nat → α) (p q : Nat) (s : α) : (q = p ∧ upd f p s q = s) ∨ (q ≠ p ∧ upd f p s q = f q) := by
  by_cases h : q = p
  · exact .inl ⟨h, if_pos h⟩
  · exact .inr ⟨h, if_neg h⟩
theorem eql_func (w : World) (f : Fn) (a b : Array Value) : (binOp .eql 81 (.func f a b) .nilFunc).run Try.prog w = .ok (.bool false) w := by kernel_rfl
theorem eql_nil (w : World) : (binOp .eql 81 .nilFunc .nilFunc).run Try.prog w = .ok (.bool true) w := by kernel_rfl
def touch (S : Option Gsrc) (b : Nat) : Nat → Prop := fun i => i = b ∨ ∃ g, S = some g ∧ i = g.bc
set_option maxHeartbeats 1000000 in
theorem need_any (b : Nat) (S : Option Gsrc) (cn : List (Int × Value)) (sl : SS) (fm : FM) (p : Nat) (W : World) (h : SpAt W b S cn sl fm) (hp : p < 64) :
    Calls Try.prog 33 #[.pointer (some ⟨b, 0, none⟩), .int .i64 (p : Nat)] W fun e w' => ∃ f, W.heap.size ≤ f ∧ fm f = none ∧ e = .returned (.pointer (some ⟨b, 1 + p * 5, none⟩)) ∧ SpAt w' b S (needC S sl cn p) (needF S sl fm p f).1 (needF S sl fm p f).2 ∧ Keep (touch S b) W w' := by
  have k0 : W.cell? ⟨b, 1 + p * 5, none⟩ = some (.bool (sl p).known) := h.slot p 0 hp (by decide)
  have k1 : W.cell? ⟨b, 1 + p * 5 + 1, none⟩ = some (.bool (sl p).asked) := h.slot p 1 hp (by decide)
  have k3 : W.cell? ⟨b, 1 + p * 5 + 3, none⟩ = some (.bool (sl p).own) := h.slot p 3 hp (by decide)
  have k4 : W.cell? ⟨b, 1 + p * 5 + 4, none⟩ = some (pf (sl p).copy) := h.slot p 4 hp (by decide)
  have s0 : W.cell? ⟨b, 0, none⟩ = some (srcV S) := (h.blk.cell 0).trans (spc_src _ _)
  have fz := fun i => h.blk.frozen i
  have eq1 := eql_func; have eq2 := eql_nil
  have hp' : (p : Int) < 64 := by omega
  have hfr : fm W.heap.size = none := h.fr.fresh (Nat.le_refl _)
  cases hk : (sl p).known
  · rw [hk] at k0
    have m1 := h.toSpMem.set p 0 { sl p with known := true } (.bool true) hp (by decide) rfl
    have kp1 : Keep (touch S b) W (W.setCell ⟨b, 1 + p * 5 + 0, none⟩ (.bool true)) := (Keep.refl _ W).setCell (fun _ => .inl rfl) _
    cases S with
    | none =>
      have HF : Hid (SpAt (W.setCell ⟨b, 1 + p * 5, none⟩ (.bool true)) b none (needC none sl cn p) (needF none sl fm p W.heap.size).1 (needF none sl fm p W.heap.size).2) := Lib.hid (by
        rw [needC_none, needF_none hk]
        refine ⟨m1, fun q hq f hf => ?_, fun hn => absurd rfl hn⟩
        rcases upd_cases sl p q { sl p with known := true } with ⟨rfl, e⟩ | ⟨_, e⟩
        · simp only [e] at hf; exact h.ok q hq f hf
        · simp only [e] at hf; exact h.ok q hq f hf)
      have HK := Lib.hid kp1
      clear m1 kp1 h
      simp only [srcV] at s0
      go_enter Try.func33, Try.ntmps33
      go_wp2
      go_returns
      exact ⟨W.heap.size, Nat.le_refl _, hfr, rfl, HF.out, HK.out⟩
    | some g =>
      have m2 := m1.set p 1 { sl p with known := true, asked := true } (.bool true) hp (by decide) (by rw [upd_same]; rfl)
      rw [upd_upd] at m2
      have kp2 := kp1.setCell (p := ⟨b, 1 + p * 5 + 1, none⟩) (fun _ => .inl rfl) (.bool true)
      have hgat := m2.src g rfl
      have hcn : iget cn p = none := h.cn0 (by simp) p hp hk
      have hsz : ((W.setCell ⟨b, 1 + p * 5 + 0, none⟩ (.bool true)).setCell ⟨b, 1 + p * 5 + 1, none⟩ (.bool true)).heap.size = W.heap.size := by simp
      have HOk := Lib.hid h.ok
      have HCn0 := Lib.hid h.cn0
      have M2 := Lib.hid m2; have KP2 := Lib.hid kp2; have HG := Lib.hid hgat; have HCn := Lib.hid hcn; have HSz := Lib.hid hsz; have HFr := Lib.hid hfr; have HK := Lib.hid hk
      clear m1 m2 kp1 kp2 hgat hcn hsz h hfr hk
      simp only [srcV] at s0
      go_enter Try.func33, Try.ntmps33
      go_wp2_with fail
      refine (get_any g cn p _ HG.out HCn.out).mono ?_
      rintro e W3 ⟨rfl, hg3, hgr, hsz3⟩
      have m3 := M2.out.grown rfl hgr hg3
      have kp3 := KP2.out.grown hgr (fun k e _ => .inr ⟨g, rfl, by injection e with e; exact e.symm⟩)
      have hs3 : W3.heap.size = W.heap.size := hsz3.trans HSz.out
      have fz3 := fun i => m3.blk.frozen i
      have j0 : W3.cell? ⟨b, 1 + p * 5, none⟩ = some (.bool true) := (m3.slot p 0 hp (by decide)).trans (by rw [upd_same]; rfl)
      have j3 : W3.cell? ⟨b, 1 + p * 5 + 3, none⟩ = some (.bool (sl p).own) := (m3.slot p 3 hp (by decide)).trans (by rw [upd_same]; rfl)
      have j4 : W3.cell? ⟨b, 1 + p * 5 + 4, none⟩ = some (pf (sl p).copy) := (m3.slot p 4 hp (by decide)).trans (by rw [upd_same]; rfl)
      have hb3 : b < W3.heap.size := m3.blk.lt
      have M3 := Lib.hid m3; have KP3 := Lib.hid kp3; have HS3 := Lib.hid hs3
      clear hg3 hgr hsz3 m3 kp3 hs3 fz k0 k1 k3 k4 s0
      cases hsy : (sayS g p).2
      · have HF : Hid (SpAt W3 b (some g) (needC (some g) sl cn p) (needF (some g) sl fm p W.heap.size).1 (needF (some g) sl fm p W.heap.size).2) := Lib.hid (by
          rw [needC_some HK.out, needF_no HK.out hsy]
          refine ⟨M3.out, fun q hq f hf => ?_, fun hn q hq hkq => ?_⟩
          · rcases upd_cases sl p q { sl p with known := true, asked := true } with ⟨rfl, e⟩ | ⟨_, e⟩
            · simp only [e] at hf; exact HOk.out q hq f hf
            · simp only [e] at hf; exact HOk.out q hq f hf
          · rcases upd_cases sl p q { sl p with known := true, asked := true } with ⟨rfl, e⟩ | ⟨hqp, e⟩
            · simp only [e] at hkq; cases hkq
            · simp only [e] at hkq
              rw [iget_iput, if_neg (by omega)]
              exact HCn0.out hn q hq hkq)
        clear hsy
        go_wp2
        go_returns
        exact ⟨W.heap.size, Nat.le_refl _, HFr.out, rfl, HF.out, KP3.out⟩
      · have m4 := M3.out.set p 4 { sl p with known := true, asked := true, copy := some W.heap.size } (.pointer (some ⟨W.heap.size, 0, none⟩)) hp (by decide) (by rw [upd_same]; rfl)
        rw [upd_upd] at m4
        have m5 := m4.set p 3 { sl p with known := true, asked := true, own := true, copy := some W.heap.size } (.bool true) hp (by decide) (by rw [upd_same]; rfl)
        rw [upd_upd] at m5
        have m6 := m5.frame (fillL (sayS g p).1.data.toList) (fillL_len _)
        rw [show ((W3.setCell ⟨b, 1 + p * 5 + 4, none⟩ (.pointer (some ⟨W.heap.size, 0, none⟩))).setCell ⟨b, 1 + p * 5 + 3, none⟩ (.bool true)).heap.size = W.heap.size by simp [HS3.out]] at m6
        have kp4 := ((KP3.out.setCell (p := ⟨b, 1 + p * 5 + 4, none⟩) (fun _ => .inl rfl) (.pointer (some ⟨W.heap.size, 0, none⟩))).setCell (p := ⟨b, 1 + p * 5 + 3, none⟩) (fun _ => .inl rfl) (.bool true)).alloc (.cells (frc (fillL (sayS g p).1.data.toList)) 92)
        have HK6 := Lib.hid kp4
        have hs3 := HS3.out
        have HOk2 : Hid (SpAt (((W3.setCell ⟨b, 1 + p * 5 + 4, none⟩ (.pointer (some ⟨W.heap.size, 0, none⟩))).setCell ⟨b, 1 + p * 5 + 3, none⟩ (.bool true)).alloc (.cells (frc (fillL (sayS g p).1.data.toList)) 92)) b (some g) (needC (some g) sl cn p) (needF (some g) sl fm p W.heap.size).1 (needF (some g) sl fm p W.heap.size).2) := Lib.hid (by
          rw [needC_some HK.out, needF_yes HK.out hsy]
          refine ⟨m6, fun q hq f hf => ?_, fun hn q hq hkq => ?_⟩
          · rcases upd_cases sl p q { sl p with known := true, asked := true, own := true, copy := some W.heap.size } with ⟨rfl, e⟩ | ⟨_, e⟩
            · simp only [e] at hf
              injection hf with hf
              subst hf
              exact ⟨_, upd_same _ _ _⟩
            · simp only [e] at hf
              obtain ⟨bs, hbs⟩ := HOk.out q hq f hf
              have hne : f ≠ W.heap.size := fun e => by rw [e, HFr.out] at hbs; cases hbs
              exact ⟨bs, by simp only [upd_ne _ _ _ _ hne]; exact hbs⟩
          · rcases upd_cases sl p q { sl p with known := true, asked := true, own := true, copy := some W.heap.size } with ⟨rfl, e⟩ | ⟨hqp, e⟩
            · simp only [e] at hkq; cases hkq
            · simp only [e] at hkq
              rw [iget_iput, if_neg (by omega)]
              exact HCn0.out hn q hq hkq)
        clear hsy m4 m5 m6 kp4
        go_wp2_with fail
        refine (fill_any (sayS g p).1 W3).mono ?_
        rintro e W4 ⟨rfl, rfl⟩
        rw [hs3]
        have hbw : b < W.heap.size := by omega
        clear hs3
        go_wp2
        go_returns
        exact ⟨W.heap.size, Nat.le_refl _, HFr.out, rfl, HOk2.out, HK6.out⟩
  · rw [hk] at k0
    have HF : Hid (SpAt W b S (needC S sl cn p) (needF S sl fm p W.heap.size).1 (needF S sl fm p W.heap.size).2) := Lib.hid (by
      rw [needC_known hk, needF_known hk]
      exact h)
    clear h hk
    go_enter Try.func33, Try.ntmps33
    go_wp2
    go_returns
    exact ⟨W.heap.size, Nat.le_refl _, hfr, rfl, HF.out, Keep.refl _ _⟩
end Go.Proofs.Ytlgnhnjnkhnoiaa
