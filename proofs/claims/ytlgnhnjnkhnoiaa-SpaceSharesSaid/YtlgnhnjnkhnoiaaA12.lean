/- Equal, by a contract. -/
import Derived.Test.YtlgnhnjnkhnoiaaA11
namespace Go.Proofs.Ytlgnhnjnkhnoiaa
open Go.RowKit
set_option maxRecDepth 100000
theorem bl_tr {a w w' : World} (h : Below a.heap.size a w) (k : Below w.heap.size w w') : Below a.heap.size a w' := h.trans (k.mono h.size)
/-- Frames stay: none is lost. -/
def fmGrow (fm fm' : FM) : Prop := ∀ f bs, fm f = some bs → ∃ bs', fm' f = some bs'
theorem SpA.other {W W' : World} {a b : Nat} {Sa Sb : Option Gsrc} {σa σa' σb : ST} (hb : SpA W b Sb σb) (ha : SpA W a Sa σa) (ha' : SpA W' a Sa σa') (hfm : σb.fm = σa.fm) (hk : Keep (tch Sa a σa.fm) W W') (hne : b ≠ a) (hS : Sa = none ∨ Sb = none)
    (hg : fmGrow σa.fm σa'.fm) : SpA W' b Sb ⟨σb.cn, σb.sl, σa'.fm⟩ := by
  have hcell : ∀ {g : Nat} {t : TypeId} {cs : Array Value}, Blk W g t cs → t ≠ 87 → t ≠ 92 → Blk W' g t cs := fun {g t cs} hB h1 h2 => by
    refine hB.kept hk fun ht => ?_
    rcases ht with e | ⟨q, hq, e⟩ | e
    · subst e; exact (hB.ne_ ha.blk h1) rfl
    · subst e; exact ((ha.src q hq).ic.ne_blk hB) rfl
    · obtain ⟨bs, hbs⟩ := Option.ne_none_iff_exists'.1 e
      exact (hB.ne_ (ha.fr.at_ g bs hbs).2 h2) rfl
  refine ⟨⟨kid_keep hb.blk hne ha hk, fun g hgs => ?_, ha'.fr⟩, fun p hp f hf => ?_, hb.cn0⟩
  · rcases hS with h | h
    · have hmap : ∀ {q : Nat} {l : List (Int × Value)}, IM W q l → IM W' q l := fun {q l} him => him.of_block (hk.block q him.lt (fun ht => by
        rcases ht with e | ⟨q', hq', e⟩ | e
        · exact him.ne_blk ha.blk e
        · rw [h] at hq'; cases hq'
        · obtain ⟨bs, hbs⟩ := Option.ne_none_iff_exists'.1 e
          exact him.ne_blk (ha.fr.at_ q bs hbs).2 rfl))
      have := hb.src g hgs
      exact ⟨hcell this.blk (by decide) (by decide), hmap this.im, hmap this.ic, this.ne, this.na, this.str⟩
    · rw [h] at hgs; cases hgs
  · obtain ⟨bs, hbs⟩ := hb.ok p hp f hf
    rw [hfm] at hbs
    exact hg f bs hbs
theorem needR.keeps {S : Option Gsrc} {n0 : Nat} {σ σ' : ST} {p : Nat} (h : needR S n0 σ p σ') {f : Nat} {bs : List UInt8} (hf : σ.fm f = some bs) : σ'.fm f = some bs := by
  obtain ⟨f', h1, h2, rfl⟩ := h
  have hne : f ≠ f' := fun e => by rw [e, h2] at hf; cases hf
  cases hk : (σ.sl p).known
  · cases S with
    | none => simp only [needF_none hk]; exact hf
    | some g =>
      cases hs : (sayS g p).2
      · simp only [needF_no hk hs]; exact hf
      · simp only [needF_yes hk hs]; rw [upd_ne _ _ _ _ hne]; exact hf
  · simp only [needF_known hk]; exact hf
theorem allS.keeps {S : Option Gsrc} {n0 : Nat} {σ : ST} : ∀ (k : Nat) (σ' : ST), allS S n0 σ k σ' → ∀ {f : Nat} {bs : List UInt8}, σ.fm f = some bs → σ'.fm f = some bs := by
  intro k
  induction k with
  | zero => intro σ' h f bs hf; rw [show σ' = σ from h]; exact hf
  | succ k ih => intro σ' ⟨σ1, h1, h2⟩ f bs hf; exact h2.keeps (ih σ1 h1 hf)
def contP (sl : SS) (fm : FM) (p : Nat) : Option (List UInt8) := (sl p).copy.bind fm
def eqA (sa sb : SS) (fm : FM) : Bool := (List.range 64).all fun p => contP sa fm p == contP sb fm p
theorem eqA_no {sa sb : SS} {fm : FM} {k : Nat} (hk : k < 64) (h : contP sa fm k ≠ contP sb fm k) : eqA sa sb fm = false := by
  unfold eqA
  rw [List.all_eq_false]
  exact ⟨k, by simpa using hk, by simpa using h⟩
theorem eqA_yes {sa sb : SS} {fm : FM} (h : ∀ k, k < 64 → contP sa fm k = contP sb fm k) : eqA sa sb fm = true := by
  unfold eqA
  rw [List.all_eq_true]
  intro k hk
  simpa using h k (by simpa using hk)
def tch2 (Sa Sb : Option Gsrc) (a b : Nat) (fm : FM) : Nat → Prop := fun i => tch Sa a fm i ∨ tch Sb b fm i
def EqualP (Sa Sb : Option Gsrc) (a b : Nat) (σa σb : ST) (W : World) (e : Ending) (w' : World) : Prop :=
  ∃ σa' σb', e = .returned (.bool (eqA σa'.sl σb'.sl σb'.fm)) ∧ allS Sa W.heap.size σa 64 σa' ∧ allS Sb W.heap.size ⟨σb.cn, σb.sl, σa'.fm⟩ 64 σb' ∧ ext W.heap.size σa.fm σb'.fm ∧ SpA w' a Sa ⟨σa'.cn, σa'.sl, σb'.fm⟩ ∧ SpA w' b Sb σb' ∧ Keep (tch2 Sa Sb a b σa.fm) W w'
theorem sz5 (w : World) : (sizeOf 5).run Try.prog w = .ok 1 w := by kernel_rfl
theorem neq_row (w : World) (A B : List UInt8) (ha : A.length = 64) (hb : B.length = 64) : (binOp .neq 92 (.agg (frc A)) (.agg (frc B))).run Try.prog w = .ok (.bool (!(A == B))) w := by
  rw [run_neq_struct]
  have := run_equalIn_bytes (P := Try.prog) w 9998 92 5 64 Try.underlying92 Try.underlying5 sz5 A B ha hb
  rw [show (Value.agg (frc A)) = .agg (A.map Extern.Stop.cell).toArray from rfl, show (Value.agg (frc B)) = .agg (B.map Extern.Stop.cell).toArray from rfl, this]
  rfl
theorem load_row (w : World) (f : Nat) (A : List UInt8) (ha : A.length = 64) (hf : Blk w f 92 (frc A)) : (loadVar 92 ⟨f, 0, none⟩).run Try.prog w = .ok (.agg (frc A)) w :=
  run_loadVar_row w f 92 92 (frc A) (0, 0) _ hf Try.underlying92 rfl (by rw [show (frc A).size = 64 by simp [frc, ha]]; kernel_rfl)
/-- A load of a whole row in a region that only reads. -/
theorem quiet_row {P : Program} {ops : Array Oper} {C : World → Prop} {Q : Act → Prop} {a : Act} {o : Oper} {rest : List Oper} (ty : TypeId) (x : Operand) (ho : o.op = .load ty x) (hw : Region.wanted o (yielded ops a.tmps) = true) (g : Nat) (hx : a.eval x = .pointer (some ⟨g, 0, none⟩)) (v : Value)
    (hr : ∀ w, C w → (loadVar ty ⟨g, 0, none⟩).run P w = .ok v w) (h : wpQuiet P ops C Q rest (a.put o.dst v)) : wpQuiet P ops C Q (o :: rest) a := by
  refine wpQuiet_step fun K hK => ?_
  rw [if_pos hw]
  refine ⟨v, fun w hC => ?_, hK _ h⟩
  unfold Oper.quietAt execOp
  simp only [ho, hx, Instr.loadAt, Instr.sureAddr, Sem.run_bind, Sem.run_pure, Result.andThen_ok, hr w hC]
  exact ⟨rfl, rfl⟩
set_option maxHeartbeats 2000000 in
theorem equal_any (a b : Nat) (Sa Sb : Option Gsrc) (σa σb : ST) (W : World) (ha : SpA W a Sa σa) (hb : SpA W b Sb σb) (hfm : σb.fm = σa.fm) (hne : b ≠ a) (hS : Sa = none ∨ Sb = none) :
    Calls Try.prog 17 #[.pointer (some ⟨a, 0, none⟩), .pointer (some ⟨b, 0, none⟩)] W (EqualP Sa Sb a b σa σb W) := by
  have HA := Lib.hid ha; have HB := Lib.hid hb; have HFm := Lib.hid hfm; have HS := Lib.hid hS; have HNe := Lib.hid hne
  clear ha hb hfm hS hne
  have nq1 := neq_frame; have nq2 := neq_none; have eq2 := eql_pn
  go_enter Try.func17, Try.ntmps17
  go_wp2_with fail
  refine (pages_any a Sa σa W HA.out).mono ?_
  rintro e W1 ⟨σa', A1, n1, c1, rfl, -, hal, hex, -, hsp, hk⟩
  have hb1 := HB.out.other HA.out hsp HFm.out hk HNe.out HS.out (fun f bs hf => ⟨bs, hal.keeps _ _ hf⟩)
  have HA1 := Lib.hid hsp; have HB1 := Lib.hid hb1; have HK1 := Lib.hid hk; have HE1 := Lib.hid hex; have HAl := Lib.hid hal
  clear hal hex hsp hk hb1
  go_wp2_with fail
  refine (pages_any b Sb _ W1 HB1.out).mono ?_
  rintro e W2 ⟨σb', A2, n2, c2, rfl, -, hal, hex, -, hsp, hk⟩
  have ha2 := HA1.out.other HB1.out hsp rfl hk (fun e => HNe.out e.symm) (HS.out.symm) (fun f bs hf => ⟨bs, hal.keeps _ _ hf⟩)
  have hall : allS Sb W.heap.size ⟨σb.cn, σb.sl, σa'.fm⟩ 64 σb' := by
    have hmono : ∀ k σ', allS Sb W1.heap.size ⟨σb.cn, σb.sl, σa'.fm⟩ k σ' → allS Sb W.heap.size ⟨σb.cn, σb.sl, σa'.fm⟩ k σ' := by
      intro k
      induction k with
      | zero => intro σ' h; exact h
      | succ k ih => intro σ' ⟨σ1, h1, h2⟩; exact ⟨σ1, ih σ1 h1, h2.mono HK1.out.size⟩
    exact hmono 64 σb' hal
  have hkp : Keep (tch2 Sa Sb a b σa.fm) W W2 := by
    refine (HK1.out.mono (fun i _ h => .inl h)).trans hk fun i hi h => ?_
    rcases h with h | h | h
    · exact .inr (.inl h)
    · exact .inr (.inr (.inl h))
    · exact .inl (.inr (.inr (HE1.out i hi h)))
  have HA2 := Lib.hid ha2; have HB2 := Lib.hid hsp; have HK2 := Lib.hid hkp; have HE2 := Lib.hid (HE1.out.trans hex HK1.out.size); have HAll := Lib.hid hall
  clear hal hex hsp hk ha2 hkp hall HA1 HB1 HK1 HE1
  have hdone : ∀ r wr, Below W2.heap.size W2 wr → r = eqA σa'.sl σb'.sl σb'.fm → EqualP Sa Sb a b σa σb W (.returned (.bool r)) wr := fun r wr hb hr =>
    ⟨σa', σb', by rw [hr], HAl.out, HAll.out, HE2.out, HA2.out.after hb, HB2.out.after hb, HK2.out.after hb⟩
  have HDone := Lib.hid hdone
  clear hdone
  go_wp2
  go_loopw [24] (fun v wr => ∃ k : Nat, k ≤ 64 ∧ v = .int .i64 (k : Nat) ∧ Below W2.heap.size W2 wr ∧ ∀ j, j < k → contP σa'.sl σb'.fm j = contP σb'.sl σb'.fm j) (fun v _ => 64 - (intOf v).toNat)
  case atStart => exact ⟨0, by omega, rfl, Below.refl _ _, fun j hj => by omega⟩
  case round =>
    obtain ⟨k, hk, rfl, hbl, hall⟩ := hrel
    have HBl := Lib.hid hbl; have HAll2 := Lib.hid hall
    have hsa := HA2.out.after hbl
    have hsb := HB2.out.after hbl
    by_cases hlt : k < 64
    · have a4 := slot_copy hsa k hlt
      have b4 := slot_copy hsb k hlt
      have HSa := Lib.hid hsa; have HSb := Lib.hid hsb
      clear hbl hall hsa hsb
      cases hca : (σa'.sl k).copy with
      | none =>
        rw [show ((⟨σa'.cn, σa'.sl, σb'.fm⟩ : ST).sl k).copy = none from hca] at a4
        simp only [pf, Option.map_none] at a4
        cases hcb : (σb'.sl k).copy with
        | none =>
          rw [hcb] at b4
          simp only [pf, Option.map_none] at b4
          have HEq := Lib.hid (show contP σa'.sl σb'.fm k = contP σb'.sl σb'.fm k by unfold contP; rw [hca, hcb])
          clear hca hcb
          go_wp2
          go_quiet (fail)
          have hbl2 : Below wr.heap.size wr (wr.drewN nq) := below_drewN (Below.refl _ _) nq
          generalize wr.drewN nq = w3 at hbl2 ⊢
          have HB2 := Lib.hid hbl2
          clear hbl2
          go_wp2
          go_quiet (fail)
          have hbl3 : Below W2.heap.size W2 (w3.drewN nq) := (bl_tr HBl.out HB2.out).trans (below_drewN (Below.refl _ _) nq)
          generalize w3.drewN nq = w4 at hbl3 ⊢
          have HB3 := Lib.hid hbl3
          clear hbl3
          go_wp2
          go_roundw
          case rel =>
            refine ⟨k + 1, by omega, by go_num, HB3.out, fun j hj => ?_⟩
            rcases Nat.lt_or_ge j k with h | h
            · exact HAll2.out j h
            · obtain rfl : j = k := by omega
              exact HEq.out
          case measure => simp [intOf]; omega
        | some g =>
          rw [hcb] at b4
          simp only [pf, Option.map_some] at b4
          obtain ⟨B, hB⟩ := HSb.out.ok k hlt g hcb
          have HNo := Lib.hid (show false = eqA σa'.sl σb'.sl σb'.fm from (eqA_no hlt (by unfold contP; rw [hca, hcb]; simp only [Option.bind_some, Option.bind_none]; rw [hB]; simp)).symm)
          clear hca hcb hB
          go_wp2
          go_quiet (fail)
          have hbl2 : Below wr.heap.size wr (wr.drewN nq) := below_drewN (Below.refl _ _) nq
          generalize wr.drewN nq = w3 at hbl2 ⊢
          have HB2 := Lib.hid hbl2
          clear hbl2
          go_wp2
          go_quiet (fail)
          have HF := Lib.hid (HDone.out false (w3.drewN nq) ((bl_tr HBl.out HB2.out).trans (below_drewN (Below.refl _ _) nq)) HNo.out)
          generalize w3.drewN nq = w4 at HF ⊢
          go_wp2
          go_returns
          exact HF.out
      | some f =>
        rw [show ((⟨σa'.cn, σa'.sl, σb'.fm⟩ : ST).sl k).copy = some f from hca] at a4
        simp only [pf, Option.map_some] at a4
        obtain ⟨A, hA⟩ := HSa.out.ok k hlt f hca
        cases hcb : (σb'.sl k).copy with
        | none =>
          rw [hcb] at b4
          simp only [pf, Option.map_none] at b4
          have HNo := Lib.hid (show false = eqA σa'.sl σb'.sl σb'.fm from (eqA_no hlt (by unfold contP; rw [hca, hcb]; simp only [Option.bind_some, Option.bind_none]; rw [show σb'.fm f = some A from hA]; simp)).symm)
          clear hca hcb hA
          go_wp2
          go_quiet (fail)
          have hbl2 : Below wr.heap.size wr (wr.drewN nq) := below_drewN (Below.refl _ _) nq
          generalize wr.drewN nq = w3 at hbl2 ⊢
          have HB2 := Lib.hid hbl2
          clear hbl2
          go_wp2
          go_quiet (fail)
          have HF := Lib.hid (HDone.out false (w3.drewN nq) ((bl_tr HBl.out HB2.out).trans (below_drewN (Below.refl _ _) nq)) HNo.out)
          generalize w3.drewN nq = w4 at HF ⊢
          go_wp2
          go_returns
          exact HF.out
        | some g =>
          rw [hcb] at b4
          simp only [pf, Option.map_some] at b4
          obtain ⟨B, hB⟩ := HSb.out.ok k hlt g hcb
          have la := HSa.out.fr.at_ f A hA
          have lb := HSb.out.fr.at_ g B hB
          have r1 : ∀ w', Below wr.heap.size wr w' → (loadVar 92 ⟨f, 0, none⟩).run Try.prog w' = .ok (.agg (frc A)) w' := fun w' h => load_row _ f A la.1 (la.2.after h)
          have r2 : ∀ w', Below wr.heap.size wr w' → (loadVar 92 ⟨g, 0, none⟩).run Try.prog w' = .ok (.agg (frc B)) w' := fun w' h => load_row _ g B lb.1 (lb.2.after h)
          have r3 : ∀ w, (binOp .neq 92 (.agg (frc A)) (.agg (frc B))).run Try.prog w = .ok (.bool (!(A == B))) w := fun w => neq_row w A B la.1 lb.1
          have hq : contP σa'.sl σb'.fm k = some A ∧ contP σb'.sl σb'.fm k = some B := by
            unfold contP; rw [hca, hcb]; exact ⟨hA, hB⟩
          have HQ := Lib.hid hq
          have R1 := Lib.hid r1; have R2 := Lib.hid r2
          clear la lb hA hB hca hcb hq r1 r2
          go_wp2
          go_quiet (fail)
          have hbl2 : Below wr.heap.size wr (wr.drewN nq) := below_drewN (Below.refl _ _) nq
          generalize wr.drewN nq = w3 at hbl2 ⊢
          have HB2 := Lib.hid hbl2
          clear hbl2
          go_wp2
          have R1' := Lib.hid (show ∀ w', (∃ n, w' = w3.drewN n) → (loadVar 92 ⟨f, 0, none⟩).run Try.prog w' = .ok (.agg (frc A)) w' from fun w' ⟨n, hn⟩ => R1.out w' (by rw [hn]; exact below_drewN HB2.out n))
          have R2' := Lib.hid (show ∀ w', (∃ n, w' = w3.drewN n) → (loadVar 92 ⟨g, 0, none⟩).run Try.prog w' = .ok (.agg (frc B)) w' from fun w' ⟨n, hn⟩ => R2.out w' (by rw [hn]; exact below_drewN HB2.out n))
          have HD3 := Lib.hid (show ∀ n, Below W2.heap.size W2 (w3.drewN n) from fun n => (bl_tr HBl.out HB2.out).trans (below_drewN (Below.refl _ _) n))
          by_cases hAB : A = B
          · have e0 : (A == B) = true := by simp [hAB]
            have HEq := Lib.hid (show contP σa'.sl σb'.fm k = contP σb'.sl σb'.fm k by rw [HQ.out.1, HQ.out.2, hAB])
            clear hAB
            refine wp_region_quiet_lit (by kernel_rfl) (by kernel_rfl) ?_
            repeat (go_big_quiet_step (fail))
            refine quiet_row 92 (.tmp 51) rfl rfl f rfl _ R1'.out ?_
            go_simp
            repeat (go_big_quiet_step (fail))
            refine quiet_row 92 (.tmp 54) rfl rfl g rfl _ R2'.out ?_
            go_simp
            repeat (go_big_quiet_step (fail))
            intro nq2
            have hbl4 := HD3.out nq2
            generalize w3.drewN nq2 = w4 at hbl4 ⊢
            have HB4 := Lib.hid hbl4
            clear hbl4
            go_wp2
            go_roundw
            case rel =>
              refine ⟨k + 1, by omega, by go_num, HB4.out, fun j hj => ?_⟩
              rcases Nat.lt_or_ge j k with h | h
              · exact HAll2.out j h
              · obtain rfl : j = k := by omega
                exact HEq.out
            case measure => simp [intOf]; omega
          · have e0 : (A == B) = false := by simp [hAB]
            have HNo := Lib.hid (show false = eqA σa'.sl σb'.sl σb'.fm from (eqA_no hlt (by rw [HQ.out.1, HQ.out.2]; simp [hAB])).symm)
            clear hAB
            refine wp_region_quiet_lit (by kernel_rfl) (by kernel_rfl) ?_
            repeat (go_big_quiet_step (fail))
            refine quiet_row 92 (.tmp 51) rfl rfl f rfl _ R1'.out ?_
            go_simp
            repeat (go_big_quiet_step (fail))
            refine quiet_row 92 (.tmp 54) rfl rfl g rfl _ R2'.out ?_
            go_simp
            repeat (go_big_quiet_step (fail))
            intro nq2
            have hbl4 := HD3.out nq2
            generalize w3.drewN nq2 = w4 at hbl4 ⊢
            have HB4 := Lib.hid hbl4
            clear hbl4
            go_wp2
            go_returns
            exact HDone.out false _ HB4.out HNo.out
    · obtain rfl : k = 64 := by omega
      have HF := Lib.hid (HDone.out true wr HBl.out (eqA_yes HAll2.out).symm)
      clear hbl hall hsa hsb
      go_wp2
      go_returns
      exact HF.out
end Go.Proofs.Ytlgnhnjnkhnoiaa
