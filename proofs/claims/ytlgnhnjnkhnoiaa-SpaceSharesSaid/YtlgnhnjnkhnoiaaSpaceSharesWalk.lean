/- The law SpaceShares, walked. -/
import Derived.Test.YtlgnhnjnkhnoiaaA15
namespace Go.Proofs.Ytlgnhnjnkhnoiaa
open Go.RowKit
set_option maxRecDepth 100000
theorem cN_le (P : Nat → Bool) : ∀ k, cN P k ≤ k := by
  intro k
  induction k with
  | zero => exact Nat.le_refl _
  | succ k ih => unfold cN; split <;> omega
theorem fork_ShI {g : Gsrc} {n0 : Nat} {σ : ST} {l : List FV} (hg : g.pg = srcL l) (h : forkS (some g) n0 ⟨[], fun _ => Sl.zero, fun _ => none⟩ 64 σ) : ShI (srcL l) [] σ.sl (kidS σ.sl 64) σ.fm ∧ ShI (srcL l) [] σ.sl σ.sl σ.fm := by
  have hf := (fork_fresh 64 σ h).1
  have hc : ∀ q, q < 64 → (kidS σ.sl 64 q).copy = (σ.sl q).copy ∧ (kidS σ.sl 64 q).own = false := fun q hq => by unfold kidS; rw [if_pos hq]; exact ⟨rfl, rfl⟩
  have hs : ∀ q, q < 64 → (σ.sl q).copy.isSome = hasK (srcL l) q := fun q hq => by
    rw [(hf q hq).1, say_has (by rw [hg]; exact srcL_str l), hg]
  refine ⟨⟨fun q hq => ⟨forkS.known 64 σ h q hq, kid_known σ.sl [] σ.fm q hq⟩, fun q hq => ⟨hs q hq, by rw [(hc q hq).1]; exact hs q hq⟩, fun q hq => by unfold contP; rw [(hc q hq).1], fun q hq _ => ⟨(hc q hq).1.symm, (hf q hq).2, (hc q hq).2⟩, fun q hq ht => by cases ht⟩,
    ⟨fun q hq => ⟨forkS.known 64 σ h q hq, forkS.known 64 σ h q hq⟩, fun q hq => ⟨hs q hq, hs q hq⟩, fun q hq => rfl, fun q hq _ => ⟨rfl, (hf q hq).2, (hf q hq).2⟩, fun q hq ht => by cases ht⟩⟩
set_option maxHeartbeats 4000000 in
theorem spaceShares_walk (A A1 A2 : Option Addr) (n c n1 c1 n2 c2 : Nat) (l : List FV) (l1 l2 : List UInt8) (W : World) (hr : Rd W W.heap.size LF A n l) (hn : n ≤ 9223372036854775807) (hl : ∀ x ∈ l, x.bytes.length ≤ 9223372036854775807)
    (hr1 : Rd W W.heap.size L8 A1 n1 l1) (hn1 : n1 ≤ 9223372036854775807) (hr2 : Rd W W.heap.size L8 A2 n2 l2) (hn2 : n2 ≤ 9223372036854775807) :
    Calls Try.prog 3 #[.slice A n c, .slice A1 n1 c1, .slice A2 n2 c2] W fun e w' => e = .returned (.bool true) ∧ Below W.heap.size W w' := by
  have HR := Lib.hid hr; have HL := Lib.hid hl; have HR1 := Lib.hid hr1; have HR2 := Lib.hid hr2; have HN := Lib.hid hn
  have hmm := @run_makeMap Try.prog
  clear hr hl hr1 hr2
  by_cases hbig : 20 < n1 ∨ 20 < n2
  · by_cases h1 : 20 < n1
    · have e1 : decide (20 < ((n1 : Nat) : Int)) = true := by simp; omega
      clear hbig h1
      go_enter Try.func3, Try.ntmps3
      go_wp2_with fail
      refine (known_any W).mono ?_
      rintro e w1 ⟨rfl, hb1⟩
      have HB1 := Lib.hid hb1
      clear hb1
      go_wp2_with fail
      refine (known_any w1).mono ?_
      rintro e w2 ⟨rfl, hb2⟩
      have HB2 := Lib.hid (HB1.out.trans (hb2.mono HB1.out.size))
      clear hb2
      go_wp2
      go_returns
      exact ⟨rfl, HB2.out⟩
    · have e1 : decide (20 < ((n1 : Nat) : Int)) = false := by simp; omega
      have e2 : decide (20 < ((n2 : Nat) : Int)) = true := by simp; omega
      clear hbig h1
      go_enter Try.func3, Try.ntmps3
      go_wp2_with fail
      refine (known_any W).mono ?_
      rintro e w1 ⟨rfl, hb1⟩
      have HB1 := Lib.hid hb1
      clear hb1
      go_wp2_with fail
      refine (known_any w1).mono ?_
      rintro e w2 ⟨rfl, hb2⟩
      have HB2 := Lib.hid (HB1.out.trans (hb2.mono HB1.out.size))
      clear hb2
      go_wp2
      go_returns
      exact ⟨rfl, HB2.out⟩
  have hle1 : n1 ≤ 20 := by omega
  have hle2 : n2 ≤ 20 := by omega
  have e1 : decide (20 < ((n1 : Nat) : Int)) = false := by simp; omega
  have e2 : decide (20 < ((n2 : Nat) : Int)) = false := by simp; omega
  have HLe := Lib.hid (And.intro hle1 hle2)
  clear hbig hle1 hle2 hn1 hn2 hn
  go_enter Try.func3, Try.ntmps3
  go_wp2_with fail
  refine (known_any W).mono ?_
  rintro e w1 ⟨rfl, hb1⟩
  have HB1 := Lib.hid hb1
  clear hb1
  go_wp2_with fail
  refine (source_any A n c l w1 (HR.out.after HB1.out) HN.out HL.out).mono ?_
  rintro e w2 ⟨rfl, him, hb2⟩
  have hb2' := HB1.out.trans (hb2.mono HB1.out.size)
  have hsp := set_sp him
  have hb3 := set_below w2 w1.heap.size
  have hb3' := hb2'.trans (hb3.mono hb2'.size)
  have HB3 := Lib.hid hb3'; have HSp := Lib.hid hsp; have HSz := Lib.hid (And.intro hb2'.size HB1.out.size)
  clear hb2 hb2' him hsp hb3 hb3' HB1 e1 e2
  go_wp2_with fail
  refine (new_func (.func 12) #[.pointer (some ⟨w2.heap.size + 1, 0, none⟩)] #[] _).mono ?_
  rintro e w3 ⟨he, hw⟩
  have he' : e = .returned (.pointer (some ⟨w2.heap.size + 2, 0, none⟩)) := he.trans (by simp)
  have hw' : w3 = setW w2 w1.heap.size := hw
  subst he'
  rw [← hw'] at HB3 HSp
  clear he hw hw'
  generalize hbs : w2.heap.size + 2 = b at HSp ⊢
  generalize hg : setG w2 w1.heap.size l = g at HSp
  have hgc : g.bc = w2.heap.size ∧ g.bm = w1.heap.size ∧ g.pg = srcL l := by rw [← hg]; exact ⟨rfl, rfl, rfl⟩
  have HBs := Lib.hid hbs; have HGc := Lib.hid hgc
  clear hbs hg hgc
  go_wp2_with fail
  refine (shared_any b b _ _ _ _ w3 HSp.out HSp.out).mono ?_
  rintro e w' ⟨rfl, rfl⟩
  rw [show shN (fun _ => Sl.zero) (fun _ => Sl.zero) 64 = 0 by decide]
  go_wp2_with fail
  refine (fork_any b (some g) _ w3 HSp.out).mono ?_
  rintro e w4 ⟨b', σ, rfl, hbb, hf, hex, hsp, hkid, hk⟩
  obtain ⟨hsh, hss⟩ := fork_ShI HGc.out.2.2 hf
  have hb4 := keep_below (W0 := W) hk HB3.out (fun i hi h => by
    have h1 := HBs.out; have h2 := HGc.out.1; have h3 := HSz.out
    rcases h with h | ⟨g', h, h4⟩ | h
    · omega
    · injection h with h; subst h; omega
    · exact h rfl)
  have hbb1 : b < w3.heap.size := HSp.out.blk.lt
  have him := (hsp.src g rfl).im
  rw [HGc.out.2.2, HGc.out.2.1] at him
  obtain ⟨es, clk, hmap, hes⟩ := him.len
  have hlen : (Builtin.len_ #[25] 3 #[.map (some w1.heap.size)]).run Try.prog w4 = .ok (.int .i64 (es.size : Nat)) w4 := run_len_map w4 25 3 _ es clk (by kernel_rfl) hmap
  have ha := hsh.total (cN_src l) rfl
  have hb := hsh.symm.total (cN_src l) rfl
  have hc := hss.total (cN_src l) rfl
  simp only [List.length_nil, Nat.add_zero, ← hes] at ha hb hc
  have hfm : ∀ i, i < W.heap.size → σ.fm i = none := fun i hi => by
    cases hx : σ.fm i with
    | none => rfl
    | some x => exact absurd rfl (hex i (by have := HSz.out; have := HBs.out; omega) (by rw [hx]; simp))
  have S4 := Lib.hid hsp; have C4 := Lib.hid hkid; have HSh := Lib.hid hsh; have HB4 := Lib.hid hb4; have HFm := Lib.hid hfm; have HNe := Lib.hid (show b' ≠ b by omega)
  have HA := Lib.hid ha; have HB := Lib.hid hb; have HC := Lib.hid hc; have HEs := Lib.hid hes
  have HLo := Lib.hid (show W.heap.size ≤ b ∧ W.heap.size ≤ b' ∧ W.heap.size ≤ g.bc by have := HSz.out; have := HBs.out; have := HGc.out.1; omega)
  clear hsp hkid hsh hss hb4 hfm ha hb hc hes hex hf hk hbb hbb1 him HSp HB3
  go_wp2_with fail
  refine (shared_any b b' _ _ _ _ w4 S4.out C4.out).mono ?_
  rintro e w' ⟨rfl, rfl⟩
  simp only [HA.out]
  go_wp2_with fail
  refine (shared_any b' b _ _ _ _ w4 C4.out S4.out).mono ?_
  rintro e w' ⟨rfl, rfl⟩
  simp only [HB.out]
  go_wp2_with fail
  refine (shared_any b b _ _ _ _ w4 S4.out S4.out).mono ?_
  rintro e w' ⟨rfl, rfl⟩
  simp only [HC.out]
  go_wp2
  have hm0 := IM.new w4 0
  have hlo5 : Below w4.heap.size w4 (w4.alloc (.map #[] 0)) := (Below.refl _ _).alloc (Nat.le_refl _) _
  have hbt : W.heap.size ≤ w4.heap.size ∧ w4.heap.size ≠ g.bm ∧ w4.heap.size ≠ g.bc := by
    have h1 := (S4.out.src g rfl).im.lt
    have h2 := (S4.out.src g rfl).ic.lt
    have h3 := HB4.out.size
    omega
  have hs5 := S4.out.after hlo5
  have hc5 := C4.out.after hlo5
  have hb5 := HB4.out.trans (hlo5.mono HB4.out.size)
  have HM0 := Lib.hid hm0; have HBt := Lib.hid hbt; have HS5 := Lib.hid hs5; have HC5 := Lib.hid hc5; have HB5 := Lib.hid hb5
  have hnt : ∀ fm : FM, (∀ j, j < W.heap.size → fm j = none) → ∀ i, i < W.heap.size → ¬ tch (some g) b fm i := fun fm hf i hi h => by
    have := HLo.out
    rcases h with h | ⟨g', h, h4⟩ | h
    · omega
    · injection h with h; subst h; omega
    · exact h (hf i hi)
  have hnt2 : ∀ fm : FM, (∀ j, j < W.heap.size → fm j = none) → ∀ i, i < W.heap.size → ¬ tch none b' fm i := fun fm hf i hi h => by
    have := HLo.out
    rcases h with h | ⟨g', h, h4⟩ | h
    · omega
    · cases h
    · exact h (hf i hi)
  have HNT := Lib.hid hnt; have HNT2 := Lib.hid hnt2
  clear hm0 hbt hlo5 hs5 hc5 hb5 hlen hmap S4 C4 HB4 HA HB HC HEs hnt hnt2 HSz HBs HR
  generalize w4.alloc (.map #[] 0) = w5 at HM0 HS5 HC5 HB5 ⊢
  generalize w4.heap.size = bt at HM0 HBt ⊢
  go_loopw [12] (fun v wr => ∃ (i : Nat) (cs : List (Int × Value)) (ss : SS) (cc : List (Int × Value)) (sc : SS) (fm : FM) (T : List (Int × Value)), i ≤ n1 + n2 ∧ v = .int .i64 (i : Nat) ∧ SpA wr b (some g) ⟨cs, ss, fm⟩ ∧ SpA wr b' none ⟨cc, sc, fm⟩ ∧ ShI (srcL l) T ss sc fm ∧ IM wr bt T ∧ cN (hasK T) 64 = T.length ∧ (∀ j, j < W.heap.size → fm j = none) ∧ Below W.heap.size W wr) (fun v _ => n1 + n2 - (intOf v).toNat)
  case atStart => exact ⟨0, σ.cn, σ.sl, [], kidS σ.sl 64, σ.fm, [], by omega, rfl, HS5.out, HC5.out, HSh.out, HM0.out, rfl, HFm.out, HB5.out⟩
  case round =>
    obtain ⟨i, cs, ss, cc, sc, fm, T, hi, rfl, hs, hc, hsh, ht, hn, hf, hb⟩ := hrel
    have HS := Lib.hid hs; have HC := Lib.hid hc; have HI := Lib.hid hsh; have HT := Lib.hid ht; have HN := Lib.hid hn; have HF := Lib.hid hf; have HB := Lib.hid hb
    clear hs hc hsh ht hn hf hb HSh HS5 HC5 HB5 HM0 HFm
    by_cases hlt : i < n1 + n2
    · have ehd : decide (((i : Nat) : Int) < (n1 : Nat) + (n2 : Nat)) = true := by simp; omega
      have hLe := HLe.out
      by_cases hl1 : i < n1
      · have ei : decide (((i : Nat) : Int) < (n1 : Nat)) = true := by simp; omega
        obtain ⟨ba, o, x, rfl, -, hx, hc⟩ := (HR1.out.after HB.out).nth hl1
        have c0 : wr.cell? ⟨ba, o + i, none⟩ = some (.int .u8 (x.toNat : Int)) := by
          have := hc 0 (b8 x) rfl
          simpa [L8, b8] using this
        have hx256 : x.toNat < 256 := x.toNat_lt
        clear hx hc
        go_wp2_with fail
        skip
        refine (load_kn b (some g) ⟨cs, ss, fm⟩ (x.toNat % 64) _ wr HS.out (fun q hq => (HI.out.kn q hq).1) (by omega) (by omega)).mono ?_
        rintro e w6 ⟨rfl, ha6, hk6⟩
        have hc6 := HC.out.other HS.out ha6 rfl hk6 HNe.out (.inr rfl) (fun f bs hf => ⟨bs, hf⟩)
        have ht6 := HT.out.kept HS.out hk6 (fun g' e => by injection e with e; subst e; exact HBt.out.2.2)
        have hb6 := keep_below (W0 := W) hk6 HB.out (HNT.out fm HF.out)
        have HA6 := Lib.hid ha6; have HC6 := Lib.hid hc6; have HT6 := Lib.hid ht6; have HB6 := Lib.hid hb6
        clear ha6 hc6 ht6 hb6 hk6
        cases hcp : (ss (x.toNat % 64)).copy.isSome
        · simp only [Bool.false_eq_true, if_false]
          clear hcp
          go_wp2
          go_roundw
          case rel => exact ⟨i + 1, cs, ss, cc, sc, fm, T, by omega, by go_num, HA6.out, HC6.out, HI.out, HT6.out, HN.out, HF.out, HB6.out⟩
          case measure => simp [intOf]; omega
        · simp only [if_true]
          have HCp := Lib.hid hcp
          clear hcp
          go_wp2_with fail
          refine (store_kn b (some g) ⟨cs, ss, fm⟩ (x.toNat % 64) _ (byteAt ⟨cs, ss, fm⟩ (x.toNat % 64 * 64)) w6 HA6.out (fun q hq => (HI.out.kn q hq).1) (by omega) (by omega) HCp.out).mono ?_
          rintro e w7 ⟨σ', rfl, hp, hex, ha7, hk7⟩
          obtain ⟨hi7, hg7, -⟩ := HI.out.step (by omega) hp rfl HA6.out.ok HC6.out.ok (.bool true)
          have hc7 := HC6.out.other HA6.out ha7 rfl hk7 HNe.out (.inr rfl) hg7
          have ht7 := HT6.out.kept HA6.out hk7 (fun g' e => by injection e with e; subst e; exact HBt.out.2.2)
          have hb7 := keep_below (W0 := W) hk7 HB6.out (HNT.out fm HF.out)
          have hf7 : ∀ j, j < W.heap.size → σ'.fm j = none := fun j hj => by
            cases hx : σ'.fm j with
            | none => rfl
            | some y => exact absurd (HF.out j hj) (hex j (by have := HB6.out.size; omega) (by rw [hx]; simp))
          have hk64 : ((x.toNat % 64 : Nat) : Int) = (x.toNat : Int) % 64 := by omega
          have hn7 := cN_put T (x.toNat % 64) (by omega) (.bool true) HN.out
          rw [hk64] at hi7 hn7
          obtain ⟨W', hpt, him, hgr, hsz⟩ := ht7.put Try.underlying36 Try.underlying3 ((x.toNat : Int) % 64) (.bool true)
          have ha8 := ha7.mapped ht7 hgr (fun g' e => by injection e with e; subst e; exact HBt.out.2)
          have hc8 := hc7.mapped ht7 hgr (fun g' e => by cases e)
          have hb8 := hb7.grown hgr hb7.size (fun q e => by injection e with e; have := HBt.out; omega)
          have HI8 := Lib.hid hi7; have HF8 := Lib.hid hf7; have HN8 := Lib.hid hn7; have HM8 := Lib.hid him; have HA8 := Lib.hid ha8; have HC8 := Lib.hid hc8; have HB8 := Lib.hid hb8
          clear hi7 hg7 hc7 ht7 hb7 hf7 hk64 hn7 him hgr hsz ha8 hc8 hb8 hp hex ha7 hk7
          go_wp2
          go_roundw
          case rel => exact ⟨i + 1, σ'.cn, σ'.sl, cc, sc, σ'.fm, _, by omega, by go_num, HA8.out, HC8.out, HI8.out, HM8.out, HN8.out, HF8.out, HB8.out⟩
          case measure => simp [intOf]; omega
      · have ei : decide (((i : Nat) : Int) < (n1 : Nat)) = false := by simp; omega
        have hij : ((i : Nat) : Int) - (n1 : Nat) = ((i - n1 : Nat) : Int) := by omega
        obtain ⟨ba, o, x, rfl, -, hx, hc⟩ := (HR2.out.after HB.out).nth (show i - n1 < n2 by omega)
        have c0 : wr.cell? ⟨ba, o + (i - n1), none⟩ = some (.int .u8 (x.toNat : Int)) := by
          have := hc 0 (b8 x) rfl
          simpa [L8, b8] using this
        have hx256 : x.toNat < 256 := x.toNat_lt
        clear hx hc
        go_wp2_with fail
        go_quiet (fail)
        have hbq : Below wr.heap.size wr (wr.drewN nq) := below_drewN (Below.refl _ _) nq
        have HS' := Lib.hid (HS.out.after hbq); have HC' := Lib.hid (HC.out.after hbq); have HT' := Lib.hid (HT.out.after hbq); have HB' := Lib.hid (HB.out.trans (hbq.mono HB.out.size))
        clear HS HC HT HB c0 hbq
        generalize wr.drewN nq = wq at HS' HC' HT' HB' ⊢
        have HS := HS'; have HC := HC'; have HT := HT'; have HB := HB'
        clear HS' HC' HT' HB'
        go_wp2_with fail
        refine (load_kn b' none ⟨cc, sc, fm⟩ (x.toNat % 64) _ wq HC.out (fun q hq => (HI.out.symm.kn q hq).1) (by omega) (by omega)).mono ?_
        rintro e w6 ⟨rfl, ha6, hk6⟩
        have hc6 := HS.out.other HC.out ha6 rfl hk6 (fun e => HNe.out e.symm) (.inl rfl) (fun f bs hf => ⟨bs, hf⟩)
        have ht6 := HT.out.kept HC.out hk6 (fun g' e => by cases e)
        have hb6 := keep_below (W0 := W) hk6 HB.out (HNT2.out fm HF.out)
        have HA6 := Lib.hid ha6; have HC6 := Lib.hid hc6; have HT6 := Lib.hid ht6; have HB6 := Lib.hid hb6
        clear ha6 hc6 ht6 hb6 hk6
        cases hcp : (sc (x.toNat % 64)).copy.isSome
        · simp only [Bool.false_eq_true, if_false]
          clear hcp
          go_wp2
          go_roundw
          case rel => exact ⟨i + 1, cs, ss, cc, sc, fm, T, by omega, by go_num, HC6.out, HA6.out, HI.out, HT6.out, HN.out, HF.out, HB6.out⟩
          case measure => simp [intOf]; omega
        · simp only [if_true]
          have HCp := Lib.hid hcp
          clear hcp
          go_wp2_with fail
          refine (store_kn b' none ⟨cc, sc, fm⟩ (x.toNat % 64) _ (byteAt ⟨cc, sc, fm⟩ (x.toNat % 64 * 64)) w6 HA6.out (fun q hq => (HI.out.symm.kn q hq).1) (by omega) (by omega) HCp.out).mono ?_
          rintro e w7 ⟨σ', rfl, hp, hex, ha7, hk7⟩
          obtain ⟨hi7, hg7, -⟩ := HI.out.symm.step (by omega) hp rfl HA6.out.ok HC6.out.ok (.bool true)
          have hc7 := HC6.out.other HA6.out ha7 rfl hk7 (fun e => HNe.out e.symm) (.inl rfl) hg7
          have ht7 := HT6.out.kept HA6.out hk7 (fun g' e => by cases e)
          have hb7 := keep_below (W0 := W) hk7 HB6.out (HNT2.out fm HF.out)
          have hf7 : ∀ j, j < W.heap.size → σ'.fm j = none := fun j hj => by
            cases hx : σ'.fm j with
            | none => rfl
            | some y => exact absurd (HF.out j hj) (hex j (by have := HB6.out.size; omega) (by rw [hx]; simp))
          have hk64 : ((x.toNat % 64 : Nat) : Int) = (x.toNat : Int) % 64 := by omega
          have hn7 := cN_put T (x.toNat % 64) (by omega) (.bool true) HN.out
          rw [hk64] at hi7 hn7
          obtain ⟨W', hpt, him, hgr, hsz⟩ := ht7.put Try.underlying36 Try.underlying3 ((x.toNat : Int) % 64) (.bool true)
          have ha8 := ha7.mapped ht7 hgr (fun g' e => by cases e)
          have hc8 := hc7.mapped ht7 hgr (fun g' e => by injection e with e; subst e; exact HBt.out.2)
          have hb8 := hb7.grown hgr hb7.size (fun q e => by injection e with e; have := HBt.out; omega)
          have HI8 := Lib.hid hi7; have HF8 := Lib.hid hf7; have HN8 := Lib.hid hn7; have HM8 := Lib.hid him; have HA8 := Lib.hid ha8; have HC8 := Lib.hid hc8; have HB8 := Lib.hid hb8
          clear hi7 hg7 hc7 ht7 hb7 hf7 hk64 hn7 him hgr hsz ha8 hc8 hb8 hp hex ha7 hk7
          go_wp2
          go_roundw
          case rel => exact ⟨i + 1, cs, ss, σ'.cn, σ'.sl, σ'.fm, _, by omega, by go_num, HC8.out, HA8.out, HI8.out.symm, HM8.out, HN8.out, HF8.out, HB8.out⟩
          case measure => simp [intOf]; omega
    · have ehd : decide (((i : Nat) : Int) < (n1 : Nat) + (n2 : Nat)) = false := by simp; omega
      have hLe := HLe.out
      have him := (HS.out.src g rfl).im
      rw [HGc.out.2.2, HGc.out.2.1] at him
      obtain ⟨em, ckm, hmap, hem⟩ := him.len
      obtain ⟨et, ckt, hmt, het⟩ := HT.out.len
      have hlen : (Builtin.len_ #[25] 3 #[.map (some w1.heap.size)]).run Try.prog wr = .ok (.int .i64 (em.size : Nat)) wr := run_len_map wr 25 3 _ em ckm (by kernel_rfl) hmap
      have hlent : (Builtin.len_ #[36] 3 #[.map (some bt)]).run Try.prog wr = .ok (.int .i64 (et.size : Nat)) wr := run_len_map wr 36 3 _ et ckt (by kernel_rfl) hmt
      have htot := HI.out.total (cN_src l) HN.out
      have hle := cN_le (hasK (srcL l)) 64
      rw [cN_src] at hle
      rw [← hem, ← het] at htot
      rw [← hem] at hle
      have HTo := Lib.hid htot
      clear him hmap hmt hem het htot hmm
      go_wp2_with fail
      refine (shared_any b b' _ _ _ _ wr HS.out HC.out).mono ?_
      rintro e w' ⟨rfl, rfl⟩
      have htot := HTo.out
      simp only [] at htot ⊢
      generalize shN ss sc 64 = q at htot ⊢
      have eqq : ((q : Nat) : Int) = ((em.size : Nat) : Int) - ((et.size : Nat) : Int) := by omega
      have hq64 : q ≤ 64 ∧ et.size ≤ 64 := by omega
      have eqq2 : (((q : Nat) : Int) == ((em.size : Nat) : Int) - ((et.size : Nat) : Int)) = true := by rw [eqq]; simp
      clear eqq htot HTo
      go_wp2_with fail
      refine (equal_any b b' (some g) none ⟨cs, ss, fm⟩ ⟨cc, sc, fm⟩ wr HS.out HC.out rfl HNe.out (.inr rfl)).mono ?_
      rintro e w6 ⟨σa, σb, rfl, h1, h2, -, -, -, h6⟩
      have := allS_known (fun q hq => (HI.out.kn q hq).1) 64 σa (by omega) h1
      subst this
      have := allS_known (fun q hq => (HI.out.kn q hq).2) 64 σb (by omega) h2
      subst this
      have heq : eqA ss sc fm = true := eqA_yes HI.out.co
      have hb6 : Below W.heap.size W w6 := HB.out.trans (h6.below HB.out.size fun j hj h => h.elim (HNT.out fm HF.out j hj) (HNT2.out fm HF.out j hj))
      have HB6 := Lib.hid hb6
      simp only [heq]
      clear h1 h2 h6 heq hb6
      go_wp2
      go_returns
      exact ⟨rfl, HB6.out⟩
end Go.Proofs.Ytlgnhnjnkhnoiaa
