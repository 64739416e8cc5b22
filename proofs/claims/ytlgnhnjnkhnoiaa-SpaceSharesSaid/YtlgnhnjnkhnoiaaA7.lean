/- Load, by a contract. -/
import Derived.Test.YtlgnhnjnkhnoiaaA6
import Derived.Laws.MakeOwn
namespace Go.Proofs.Ytlgnhnjnkhnoiaa
open Go.RowKit
set_option maxRecDepth 100000
def byteAt (σ : ST) (a : Nat) : UInt8 := match (σ.sl (a / 64)).copy with | none => 0 | some f => match σ.fm f with | none => 0 | some bs => bs.getD (a % 64) 0
theorem byteAt_eq {σ : ST} {a f : Nat} {bs : List UInt8} (h : (σ.sl (a / 64)).copy = some f) (hf : σ.fm f = some bs) : byteAt σ a = bs.getD (a % 64) 0 := by
  unfold byteAt; rw [h]; simp only; rw [hf]
def ldL (B : Nat → UInt8) (n i : Nat) : List UInt8 := (List.range n).map fun j => if j < i then B j else 0
theorem ldL_len (B : Nat → UInt8) (n i : Nat) : (ldL B n i).length = n := by simp [ldL]
theorem ldL_set (B : Nat → UInt8) (n i : Nat) : (ldL B n i).set i (B i) = ldL B n (i + 1) := by
  apply List.ext_getElem?
  intro j
  rw [List.getElem?_set]
  unfold ldL
  by_cases h : i = j
  · subst h
    by_cases hn : i < n
    · simp [hn]
    · simp [hn]
  · rw [if_neg h]
    by_cases hn : j < n
    · simp only [List.getElem?_map, List.getElem?_range hn, Option.map_some]
      congr 1
      by_cases hj : j < i
      · rw [if_pos hj, if_pos (by omega)]
      · rw [if_neg hj, if_neg (by omega)]
    · simp [hn]
theorem ldL_zero (B : Nat → UInt8) (n : Nat) : ldL B n 0 = List.replicate n 0 := by
  unfold ldL
  apply List.ext_getElem?
  intro j
  by_cases hn : j < n
  · simp [hn]
  · simp [hn]
theorem ldL_full (B : Nat → UInt8) (n : Nat) : ldL B n n = (List.range n).map B := by
  unfold ldL
  apply List.map_congr_left
  intro j hj
  rw [if_pos (by simpa using hj)]
theorem made_zero (n : Nat) : madeCells (Value.int .u8 0).cells n = frc (List.replicate n 0) := by
  have e : (Value.int .u8 0).cells = #[.int .u8 0] := rfl
  rw [e]
  unfold madeCells
  apply Array.ext
  · simp [frc]
  · intro i h1 h2
    simp [frc, b8, Nat.mod_one]
theorem make_any (W : World) (n : Nat) (hn : n ≤ 4096) : (Instr.makeSlice 23 (.int .i64 (n : Nat)) (.int .i64 (n : Nat))).run Try.prog W = .ok (.slice (some ⟨W.heap.size, 0, none⟩) n n) (W.alloc (.cells (frc (List.replicate n 0)) 5)) := by
  obtain ⟨i, hi, hz0, hz1, hz2⟩ := info_parts (show (Try.prog.info? 5).map (fun i => (i.zero, i.size, i.bytes)) = some (some (.int .u8 0), 1, 1) by kernel_rfl)
  have h := run_makeSlice (P := Try.prog) (w := W) 23 5 i (.int .u8 0) Try.underlying23 hi hz0 .i64 .i64 n n (by omega) (by omega) (by rw [hz1]; omega) (by rw [hz2]; omega) (by omega)
  rw [hz1, Int.toNat_natCast, Nat.mul_one, made_zero] at h
  exact h
theorem Rd.of_blk {W : World} {g : Nat} {l : List UInt8} (h : Blk W g 5 (frc l)) : Rd W W.heap.size L8 (some ⟨g, 0, none⟩) l.length l := by
  refine ⟨rfl, fun _ => ⟨_, rfl, h.lt, fun j u hu => ?_⟩⟩
  rw [L8_all] at hu
  have hadd : (⟨g, 0, none⟩ : Addr).add j = ⟨g, j, none⟩ := by unfold Addr.add; split <;> simp_all
  rw [hadd, h.cell j]
  simpa [frc] using hu
theorem SpMem.far {W : World} {b : Nat} {S : Option Gsrc} {cn : List (Int × Value)} {sl : SS} {fm : FM} (h : SpMem W b S cn sl fm) {g k : Nat} {t : TypeId} {cs : Array Value} (hB : Blk W g t cs) (h1 : (87 : TypeId) ≠ t) (h2 : (92 : TypeId) ≠ t) (h3 : (30 : TypeId) ≠ t) (v : Value) : SpMem (W.setCell ⟨g, k, none⟩ v) b S cn sl fm :=
  ⟨h.blk.far (h.blk.ne_ hB h1) _, fun q hq => (h.src q hq).setCell hB h3 _, ⟨fun f bs hf => ⟨(h.fr.at_ f bs hf).1, (h.fr.at_ f bs hf).2.far ((h.fr.at_ f bs hf).2.ne_ hB h2) _⟩⟩⟩
theorem SpA.far {W : World} {b : Nat} {S : Option Gsrc} {σ : ST} (h : SpA W b S σ) {g k : Nat} {t : TypeId} {cs : Array Value} (hB : Blk W g t cs) (h1 : (87 : TypeId) ≠ t) (h2 : (92 : TypeId) ≠ t) (h3 : (30 : TypeId) ≠ t) (v : Value) : SpA (W.setCell ⟨g, k, none⟩ v) b S σ :=
  ⟨h.toSpMem.far hB h1 h2 h3 v, h.ok, h.cn0⟩
theorem SpA.after {W W' : World} {b : Nat} {S : Option Gsrc} {σ : ST} (h : SpA W b S σ) (hb : Below W.heap.size W W') : SpA W' b S σ := ⟨h.toSpMem.after hb, h.ok, h.cn0⟩
def LoadP (S : Option Gsrc) (b : Nat) (σ : ST) (at_ n : Nat) (W : World) (e : Ending) (w' : World) : Prop :=
  ∃ σ' ok, e = .returned (.tuple #[.string (str (if ok = true then (List.range n).map fun i => byteAt σ' (at_ + i) else [])), .int .i64 (if ok = true then 0 else 23)]) ∧ reachA S W.heap.size σ at_ n σ' ok ∧ ext W.heap.size σ.fm σ'.fm ∧ SpA w' b S σ' ∧ Keep (tch S b σ.fm) W w'
theorem str_nil : (⟨#[]⟩ : ByteArray) = str [] := rfl
set_option maxHeartbeats 2000000 in
theorem load_any (b : Nat) (S : Option Gsrc) (σ : ST) (at_ n : Nat) (W : World) (h : SpA W b S σ) (ha : at_ ≤ 9223372036854775807) (hl : n ≤ 9223372036854775807) :
    Calls Try.prog 15 #[.pointer (some ⟨b, 0, none⟩), .int .i64 (at_ : Nat), .int .i64 (n : Nat)] W (LoadP S b σ at_ n W) := by
  have e0 : decide (((n : Nat) : Int) < 0) = false := by simp
  have HR := Lib.hid (reach_any b S σ at_ n W h ha hl)
  clear h
  go_enter Try.func15, Try.ntmps15
  go_wp2_with fail
  refine HR.out.mono ?_
  rintro e W1 ⟨σ1, ok, rfl, hr, hex, hsp, hk⟩
  cases ok
  · have HF := Lib.hid (show LoadP S b σ at_ n W (.returned (.tuple #[.string ⟨#[]⟩, .int .i64 23])) W1 from ⟨σ1, false, rfl, hr, hex, hsp, hk⟩)
    clear hr hex hsp hk
    simp only [Bool.false_eq_true, if_false]
    go_wp2
    go_returns
    exact HF.out
  · simp only [if_true]
    have hcp : n ≠ 0 → at_ + n ≤ 4096 ∧ ∀ q, at_ / 64 ≤ q → q ≤ (at_ + n - 1) / 64 → (σ1.sl q).copy ≠ none := fun hn => hr.copy hn
    have hn4 : n ≤ 4096 := by
      rcases Nat.eq_zero_or_pos n with h0 | h0
      · omega
      · have := (hcp (by omega)).1; omega
    have hmk := make_any W1 n hn4
    have hB0 : Blk (W1.alloc (.cells (frc (List.replicate n 0)) 5)) W1.heap.size 5 (frc (ldL (fun i => byteAt σ1 (at_ + i)) n 0)) := by rw [ldL_zero]; exact Blk.new W1 5 _
    have HCp := Lib.hid hcp; have HReach := Lib.hid hr; have HEx := Lib.hid hex; have HSp := Lib.hid (hsp.after (W' := W1.alloc (.cells (frc (List.replicate n 0)) 5)) ((Below.refl _ _).alloc (Nat.le_refl _) _)); have HK := Lib.hid (hk.alloc (.cells (frc (List.replicate n 0)) 5)); have HB0 := Lib.hid hB0
    have hsz := hk.size
    clear hcp hr hex hsp hk hB0
    go_wp2
    generalize W1.alloc (.cells (frc (List.replicate n 0)) 5) = W2 at HSp HK HB0 ⊢
    obtain ⟨g, hg⟩ : ∃ g, g = W1.heap.size := ⟨_, rfl⟩
    rw [← hg] at HB0 hsz ⊢
    clear hg hmk
    go_loopw [26] (fun v wr => ∃ i, i ≤ n ∧ v = .int .i64 (i : Nat) ∧ SpA wr b S σ1 ∧ Keep (tch S b σ.fm) W wr ∧ Blk wr g 5 (frc (ldL (fun i => byteAt σ1 (at_ + i)) n i))) (fun v _ => n - (intOf v).toNat)
    case atStart => exact ⟨0, by omega, rfl, HSp.out, HK.out, HB0.out⟩
    case round =>
      obtain ⟨i, hi, rfl, hsp, hkp, hB⟩ := hrel
      have HSi := Lib.hid hsp; have HKi := Lib.hid hkp; have HBi := Lib.hid hB
      clear hsp hkp hB
      by_cases hlt : i < n
      · obtain ⟨hle, hcq⟩ := HCp.out (by omega)
        obtain ⟨p, hp⟩ : ∃ p, p = (at_ + i) / 64 := ⟨_, rfl⟩
        obtain ⟨k, hk⟩ : ∃ k, k = (at_ + i) % 64 := ⟨_, rfl⟩
        have hp64 : p < 64 := by omega
        have hk64 : k < 64 := by omega
        have hd0 : (((at_ : Nat) : Int) + (i : Nat)) / 64 = (p : Nat) := by omega
        have hd1 : (((at_ : Nat) : Int) + (i : Nat)) % 64 = (k : Nat) := by omega
        have hthere : (σ1.sl p).copy ≠ none := hcq p (by omega) (by omega)
        obtain ⟨f0, hf0⟩ := Option.ne_none_iff_exists'.1 hthere
        obtain ⟨bs, hbs⟩ := HSi.out.ok p hp64 f0 hf0
        have hc4 := slot_copy HSi.out p hp64
        rw [hf0] at hc4
        simp only [pf, Option.map_some] at hc4
        obtain ⟨hfc, -⟩ := frame_cell HSi.out hbs k hk64
        have HBy := Lib.hid (show bs.getD k 0 = byteAt σ1 (at_ + i) by rw [byteAt_eq (by rw [← hp]; exact hf0) hbs, ← hk])
        have hgc : wr.cell? ⟨g, i, none⟩ = some (.int .u8 (((ldL (fun i => byteAt σ1 (at_ + i)) n i).getD i 0).toNat : Int)) := (HBi.out.cell i).trans (frc_get _ i (by rw [ldL_len]; exact hlt))
        have hgf := HBi.out.frozen i
        generalize bs.getD k 0 = c at hfc HBy
        generalize (ldL (fun i => byteAt σ1 (at_ + i)) n i).getD i 0 = c0 at hgc
        have hle' : at_ ≤ 4096 := by omega
        have hi' : i ≤ 4096 := by omega
        have hsp' := HSi.out.far (k := i) HBi.out (by decide) (by decide) (by decide) (b8 c)
        have hkp' := HKi.out.setCell (p := ⟨g, i, none⟩) (fun hlt => absurd hlt (by show ¬ g < W.heap.size; omega)) (b8 c)
        have hB' : Blk (wr.setCell ⟨g, i, none⟩ (b8 c)) g 5 (frc (ldL (fun i => byteAt σ1 (at_ + i)) n (i + 1))) := by
          have := HBi.out.set_ i (b8 c)
          rw [frc_set, HBy.out, ldL_set (fun i => byteAt σ1 (at_ + i)) n i] at this
          rw [HBy.out]; exact this
        have HS' := Lib.hid hsp'; have HK' := Lib.hid hkp'; have HB' := Lib.hid hB'
        clear hcq hp hk hthere hf0 hbs hsp' hkp' hB'
        go_wp2
        go_roundw
        case rel => exact ⟨i + 1, by omega, by go_num, HS'.out, HK'.out, HB'.out⟩
        case measure => simp [intOf]; omega
      · obtain rfl : i = n := by omega
        have hcv : (convert 23 9 (.slice (some ⟨g, 0, none⟩) i i)).run Try.prog wr = .ok (.string (str ((List.range i).map fun j => byteAt σ1 (at_ + j)))) wr := by
          have := run_conv8 (c := i) Try.underlying23 Try.underlying5 Try.underlying9 (Rd.of_blk HBi.out)
          rw [ldL_full, List.length_map, List.length_range] at this
          exact this
        have HF := Lib.hid (show LoadP S b σ at_ i W (.returned (.tuple #[.string (str ((List.range i).map fun j => byteAt σ1 (at_ + j))), .int .i64 0])) wr from ⟨σ1, true, rfl, HReach.out, HEx.out, HSi.out, HKi.out⟩)
        go_wp2
        go_returns
        exact HF.out
end Go.Proofs.Ytlgnhnjnkhnoiaa
