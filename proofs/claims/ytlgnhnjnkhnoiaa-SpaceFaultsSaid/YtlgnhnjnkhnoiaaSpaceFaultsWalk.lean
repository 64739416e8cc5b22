/- The law SpaceFaults, walked. -/
import Derived.Test.YtlgnhnjnkhnoiaaA14
import Derived.Test.YtlgnhnjnkhnoiaaArgs2
namespace Go.Proofs.Ytlgnhnjnkhnoiaa
open Go.RowKit
set_option maxRecDepth 100000
set_option maxHeartbeats 4000000 in
theorem spaceFaults_walk (A : Option Addr) (n c : Nat) (l : List FV) (k q : UInt8) (at_ N : Int) (s : List UInt8) (W : World) (hr : Rd W W.heap.size LF A n l) (hn : n ≤ 9223372036854775807) (hl : ∀ x ∈ l, x.bytes.length ≤ 9223372036854775807)
    (ha : at_ ≤ 9223372036854775807) (hs : s.length ≤ 9223372036854775807) :
    Calls Try.prog 4 #[.slice A n c, .agg #[.int .u8 (k.toNat : Int), .int .u8 (q.toNat : Int), .int .i64 at_, .int .i64 N, .string (str s)]] W fun e w' => e = .returned (.bool true) ∧ Below W.heap.size W w' := by
  have hb0 : Below W.heap.size W (W.alloc (.cells #[.int .u8 (k.toNat : Int), .int .u8 (q.toNat : Int), .int .i64 at_, .int .i64 N, .string (str s)] 44)) := (Below.refl _ _).alloc (Nat.le_refl _) _
  have k0 := Blk.new W 44 #[.int .u8 (k.toNat : Int), .int .u8 (q.toNat : Int), .int .i64 at_, .int .i64 N, .string (str s)]
  have HB0 := Lib.hid hb0; have K0 := Lib.hid k0; have HR := Lib.hid hr; have HL := Lib.hid hl; have HA := Lib.hid ha; have HS := Lib.hid hs
  have hmm := @run_makeMap Try.prog
  clear hb0 k0 hr hl ha hs
  go_enter Try.func4, Try.ntmps4
  go_wp2_with fail
  generalize W.alloc (.cells #[.int .u8 (k.toNat : Int), .int .u8 (q.toNat : Int), .int .i64 at_, .int .i64 N, .string (str s)] 44) = w0 at HB0 K0 ⊢
  refine (known_any w0).mono ?_
  rintro e w1 ⟨rfl, hb1⟩
  have hb1' := HB0.out.trans (hb1.mono HB0.out.size)
  have hr1 := HR.out.after hb1'
  have k1 := K0.out.after hb1
  have HB1 := Lib.hid hb1'; have K1 := Lib.hid k1; have HR1 := Lib.hid hr1
  clear hb1 hb1' hr1 k1 HB0 K0 HR
  go_wp2_with fail
  refine (source_any A n c l w1 HR1.out hn HL.out).mono ?_
  rintro e w2 ⟨rfl, him, hb2⟩
  have hb2' := HB1.out.trans (hb2.mono HB1.out.size)
  have k2 := K1.out.after hb2
  have hsp := set_sp him
  have hb3 := set_below w2 w1.heap.size
  have hb3' := hb2'.trans (hb3.mono hb2'.size)
  have k3 := k2.after hb3
  have hsz : W.heap.size < w2.heap.size := k2.lt
  have HB3 := Lib.hid hb3'; have K3 := Lib.hid k3; have HSp := Lib.hid hsp; have HSz := Lib.hid hsz
  clear hb2 hb2' him k2 hsp hb3 hb3' k3 hsz HB1 K1 HR1
  go_wp2_with fail
  refine (new_func (.func 12) #[.pointer (some ⟨w2.heap.size + 1, 0, none⟩)] #[] _).mono ?_
  rintro e w3 ⟨he, hw⟩
  have he' : e = .returned (.pointer (some ⟨w2.heap.size + 2, 0, none⟩)) := he.trans (by simp)
  have hw' : w3 = setW w2 w1.heap.size := hw
  subst he'
  rw [← hw'] at HB3 K3 HSp
  clear he hw hw'
  generalize hbs : w2.heap.size + 2 = b at HSp ⊢
  generalize hg : setG w2 w1.heap.size l = g at HSp
  have hgc : g.bc = w2.heap.size := by rw [← hg]; rfl
  have HBs := Lib.hid hbs; have HGc := Lib.hid hgc
  clear hbs hg hgc
  go_wp2_with fail
  refine (fork_any b (some g) _ w3 HSp.out).mono ?_
  rintro e w4 ⟨b', σ, rfl, hbb, hf, hex, hsp, hkid, hk⟩
  have hkno : Kno σ := forkS.known 64 σ hf
  have hch : ∀ q, q < 64 → (σ.sl q).changed = false := fun q _ => forkS.changed 64 σ hf q
  have hb4 := keep_below (W0 := W) hk HB3.out (fun i hi h => by
    have h1 := HBs.out; have h2 := HGc.out; have h3 := HSz.out
    rcases h with h | ⟨g', h, h4⟩ | h
    · omega
    · injection h with h; subst h; omega
    · exact h rfl)
  have hbb1 : b < w3.heap.size := HSp.out.blk.lt
  have k4 := K3.out.kept hk (fun h => by
    have h1 := HBs.out; have h2 := HGc.out; have h3 := HSz.out
    rcases h with h | ⟨g', h, h4⟩ | h
    · omega
    · injection h with h; subst h; omega
    · exact h rfl)
  have tail : ∀ e w5, OpP (some g) b σ w4 e w5 → ∃ cc : Int, e = .returned (.int .i64 cc) ∧ Below W.heap.size W w5 ∧ (cc = 0 ∨ cc ≠ 0 ∧ SpA w5 b (some g) σ ∧ SpA w5 b' none ⟨[], kidS σ.sl 64, σ.fm⟩) := by
    rintro e w5 ⟨cc, σ', rfl, ho, hx, hs5, hk5⟩
    have hns : ∀ i, i < W.heap.size → ¬ tch (some g) b σ.fm i := fun i hi h => by
      have h1 := HBs.out; have h2 := HGc.out; have h3 := HSz.out
      rcases h with h | ⟨g', h, h4⟩ | h
      · omega
      · injection h with h; subst h; omega
      · exact absurd rfl (hex i (by omega) h)
    refine ⟨cc, rfl, keep_below (W0 := W) hk5 hb4 hns, ?_⟩
    rcases ho with h | ⟨h, rfl⟩
    · exact .inl h
    · exact .inr ⟨h, hs5, hkid.other hsp hs5 rfl hk5 (by omega) (.inr rfl) (fun f bs hf => ⟨bs, hf⟩)⟩
  have tail2 : ∀ e w5 w6, Below W.heap.size W w5 → EqualP (some g) none b b' σ ⟨[], kidS σ.sl 64, σ.fm⟩ w5 e w6 → e = .returned (.bool true) ∧ SpA w6 b (some g) σ ∧ Below W.heap.size W w6 := by
    rintro e w5 w6 hb5 ⟨σa, σb, rfl, h1, h2, h3, h4, h5, h6⟩
    have := allS_known hkno 64 σa (by omega) h1
    subst this
    have := allS_known (kid_known σa.sl [] σa.fm) 64 σb (by omega) h2
    subst this
    refine ⟨by rw [kid_same], h4, hb5.trans (h6.below hb5.size fun i hi h => ?_)⟩
    have h1 := HBs.out; have h2 := HGc.out; have h3 := HSz.out
    rcases h with (h | ⟨g', h, h4⟩ | h) | (h | ⟨g', h, h4⟩ | h)
    · omega
    · injection h with h; subst h; omega
    · exact absurd rfl (hex i (by omega) h)
    · omega
    · cases h
    · exact absurd rfl (hex i (by omega) h)
  have d0 : w4.cell? ⟨W.heap.size, 0, none⟩ = some (.int .u8 (k.toNat : Int)) := k4.cell 0
  have d2 : w4.cell? ⟨W.heap.size, 2, none⟩ = some (.int .i64 at_) := k4.cell 2
  have d3 : w4.cell? ⟨W.heap.size, 3, none⟩ = some (.int .i64 N) := k4.cell 3
  have d4 : w4.cell? ⟨W.heap.size, 4, none⟩ = some (.string (str s)) := k4.cell 4
  obtain ⟨j, hj⟩ : ∃ j : Nat, j = min s.length 200 := ⟨_, rfl⟩
  have hcut := cutN s 200
  rw [← hj] at hcut
  have hmin : min (((str s).size : Nat) : Int) 200 = (j : Nat) := by rw [str_size]; omega
  have hj2 : j ≤ (str s).size := by rw [str_size]; omega
  have hsb : (str s).size ≤ 9223372036854775807 := HS.out
  have hlen : (s.take 200).length ≤ 9223372036854775807 := by rw [List.length_take]; omega
  have h4 : k.toNat % 4 = 0 ∨ k.toNat % 4 = 1 ∨ k.toNat % 4 = 2 ∨ k.toNat % 4 = 3 := by omega
  have T1 := Lib.hid tail; have T2 := Lib.hid tail2; have S4 := Lib.hid hsp; have KN := Lib.hid hkno; have CH := Lib.hid hch; have HLen := Lib.hid hlen; have HJ := Lib.hid hj; have HNe := Lib.hid (show b' ≠ b by omega)
  clear tail tail2 hsp hkno hch hb4 hkid hex hf hk k4 HB3 K3 HSp HBs HGc HSz hbb hbb1 hlen hj HL HS
  rcases h4 with h4 | h4 | h4 | h4
  · have e0 : (k.toNat : Int) % 4 = 0 := by omega
    clear h4
    go_wp2_with fail
    refine (store_op b (some g) σ w4 S4.out KN.out at_ _ HA.out HLen.out).mono ?_
    rintro e w5 hop
    obtain ⟨cc, rfl, hb5, hor⟩ := T1.out _ _ hop
    have HB5 := Lib.hid hb5; have HOr := Lib.hid hor
    clear hop hb5 hor
    by_cases hc0 : cc = 0
    · subst hc0
      go_wp2
      go_returns
      exact ⟨rfl, HB5.out⟩
    · have ec : (cc == 0) = false := by simp [hc0]
      obtain ⟨-, ha5, hc5⟩ := HOr.out.resolve_left hc0
      have A5 := Lib.hid ha5; have C5 := Lib.hid hc5
      clear ha5 hc5 hc0 HOr
      go_wp2_with fail
      refine (equal_any b b' (some g) none σ _ w5 A5.out C5.out rfl HNe.out (.inr rfl)).mono ?_
      rintro e w6 heq
      obtain ⟨rfl, ha6, hb6⟩ := T2.out e w5 w6 HB5.out heq
      have A6 := Lib.hid ha6; have B6 := Lib.hid hb6
      clear heq ha6 hb6
      go_wp2_with fail
      refine (changes_none b (some g) σ w6 A6.out CH.out).mono ?_
      rintro e w7 ⟨rfl, hb7⟩
      have HF := Lib.hid (B6.out.trans (hb7.mono B6.out.size))
      clear hb7
      go_wp2
      go_returns
      exact ⟨rfl, HF.out⟩
  · have e0 : (k.toNat : Int) % 4 = 1 := by omega
    clear h4
    go_wp2_with fail
    rw [show N % 4294967296 = (((N % 4294967296).toNat : Nat) : Int) by omega]
    refine (setword_op b (some g) σ w4 S4.out KN.out at_ (N % 4294967296).toNat HA.out (by omega)).mono ?_
    rintro e w5 hop
    obtain ⟨cc, rfl, hb5, hor⟩ := T1.out _ _ hop
    have HB5 := Lib.hid hb5; have HOr := Lib.hid hor
    clear hop hb5 hor
    by_cases hc0 : cc = 0
    · subst hc0
      go_wp2
      go_returns
      exact ⟨rfl, HB5.out⟩
    · have ec : (cc == 0) = false := by simp [hc0]
      obtain ⟨-, ha5, hc5⟩ := HOr.out.resolve_left hc0
      have A5 := Lib.hid ha5; have C5 := Lib.hid hc5
      clear ha5 hc5 hc0 HOr
      go_wp2_with fail
      refine (equal_any b b' (some g) none σ _ w5 A5.out C5.out rfl HNe.out (.inr rfl)).mono ?_
      rintro e w6 heq
      obtain ⟨rfl, ha6, hb6⟩ := T2.out e w5 w6 HB5.out heq
      have A6 := Lib.hid ha6; have B6 := Lib.hid hb6
      clear heq ha6 hb6
      go_wp2_with fail
      refine (changes_none b (some g) σ w6 A6.out CH.out).mono ?_
      rintro e w7 ⟨rfl, hb7⟩
      have HF := Lib.hid (B6.out.trans (hb7.mono B6.out.size))
      clear hb7
      go_wp2
      go_returns
      exact ⟨rfl, HF.out⟩
  · have e0 : (k.toNat : Int) % 4 = 2 := by omega
    clear h4
    go_wp2_with fail
    refine (map_op b (some g) σ w4 S4.out KN.out at_ _).mono ?_
    rintro e w5 hop
    obtain ⟨cc, rfl, hb5, hor⟩ := T1.out _ _ hop
    have HB5 := Lib.hid hb5; have HOr := Lib.hid hor
    clear hop hb5 hor
    by_cases hc0 : cc = 0
    · subst hc0
      go_wp2
      go_returns
      exact ⟨rfl, HB5.out⟩
    · have ec : (cc == 0) = false := by simp [hc0]
      obtain ⟨-, ha5, hc5⟩ := HOr.out.resolve_left hc0
      have A5 := Lib.hid ha5; have C5 := Lib.hid hc5
      clear ha5 hc5 hc0 HOr
      go_wp2_with fail
      refine (equal_any b b' (some g) none σ _ w5 A5.out C5.out rfl HNe.out (.inr rfl)).mono ?_
      rintro e w6 heq
      obtain ⟨rfl, ha6, hb6⟩ := T2.out e w5 w6 HB5.out heq
      have A6 := Lib.hid ha6; have B6 := Lib.hid hb6
      clear heq ha6 hb6
      go_wp2_with fail
      refine (changes_none b (some g) σ w6 A6.out CH.out).mono ?_
      rintro e w7 ⟨rfl, hb7⟩
      have HF := Lib.hid (B6.out.trans (hb7.mono B6.out.size))
      clear hb7
      go_wp2
      go_returns
      exact ⟨rfl, HF.out⟩
  · have e0 : (k.toNat : Int) % 4 = 3 := by omega
    clear h4
    go_wp2_with fail
    refine (unmap_op b (some g) σ w4 S4.out KN.out at_).mono ?_
    rintro e w5 hop
    obtain ⟨cc, rfl, hb5, hor⟩ := T1.out _ _ hop
    have HB5 := Lib.hid hb5; have HOr := Lib.hid hor
    clear hop hb5 hor
    by_cases hc0 : cc = 0
    · subst hc0
      go_wp2
      go_returns
      exact ⟨rfl, HB5.out⟩
    · have ec : (cc == 0) = false := by simp [hc0]
      obtain ⟨-, ha5, hc5⟩ := HOr.out.resolve_left hc0
      have A5 := Lib.hid ha5; have C5 := Lib.hid hc5
      clear ha5 hc5 hc0 HOr
      go_wp2_with fail
      refine (equal_any b b' (some g) none σ _ w5 A5.out C5.out rfl HNe.out (.inr rfl)).mono ?_
      rintro e w6 heq
      obtain ⟨rfl, ha6, hb6⟩ := T2.out e w5 w6 HB5.out heq
      have A6 := Lib.hid ha6; have B6 := Lib.hid hb6
      clear heq ha6 hb6
      go_wp2_with fail
      refine (changes_none b (some g) σ w6 A6.out CH.out).mono ?_
      rintro e w7 ⟨rfl, hb7⟩
      have HF := Lib.hid (B6.out.trans (hb7.mono B6.out.size))
      clear hb7
      go_wp2
      go_returns
      exact ⟨rfl, HF.out⟩
end Go.Proofs.Ytlgnhnjnkhnoiaa
