/- The walk of the law CodecWrites: for every sequence of values, a Writer and a zero Writer write the reference's bytes, or its error. -/
import Derived.Test.YtogagcdlkhinjaaWriteR
namespace Go.Proofs.Ytogagcdlkhinjaa
open Go.RowKit
set_option maxRecDepth 100000
theorem cut_ok (l : List V) (h : ∀ x ∈ l, x.Ok) : ∀ x ∈ (l.take 40).map cutV, x.Ok ∧ x.s.length ≤ 200 := by
  intro x hx
  obtain ⟨y, hy, rfl⟩ := List.mem_map.1 hx
  have ho := h y (List.mem_of_mem_take hy)
  refine ⟨⟨ho.n1, ho.n2, ho.m1, ho.m2, ?_⟩, ?_⟩
  · have := ho.s1; simp [cutV]; omega
  · simp [cutV]; omega
/-- A Writer beside another keeps what it holds while that one is written. -/
theorem Wr.beside {w w' : World} {base g g' : Nat} {v v' : Value} {out out' : List UInt8} {f f' : Nat} (h : Wr w base g v out f) (h' : Wr w base g' v' out' f') (hne : g ≠ g') (hown : ∀ k, v.ownBlock = some k → v'.ownBlock ≠ some k) (hk : Keep (WS g' v') w w') : Wr w' base g v out f :=
  h.kept hk fun k hx hy => by
    rcases hx with rfl | hx
    · rcases hy with hy | hy
      · exact hne hy
      · exact h.blk.own_ne h'.own (by decide) hy.symm
    · rcases hy with rfl | hy
      · exact h'.blk.own_ne h.own (by decide) hx.symm
      · exact hown k hx hy
set_option maxHeartbeats 2000000 in
theorem codecWrites_walk (A : Option Addr) (n c : Nat) (l : List V) (w : World) (hr : Rd w w.heap.size LV A n l) (hok : ∀ x ∈ l, x.Ok) (hn : n ≤ 9223372036854775807) :
    Calls Try.prog 5 #[.slice A n c] w fun e w' => e = .returned (.bool true) ∧ Below w.heap.size w w' := by
  have hsl : ∀ v ∈ l, v.s.length ≤ 9223372036854775807 := fun v hv => by have := (hok v hv).s1; unfold maxLen at this; omega
  have hcut := cut_ok l hok
  have hlen : ((l.take 40).map cutV).length ≤ 40 := by simp; omega
  go_enter Try.func5, Try.ntmps5
  go_wp2_with fail
  refine (short_any A n c l w hr hn hsl).mono ?_
  rintro e w1 ⟨A1, n1, c1, rfl, hown1, hb1⟩
  generalize (l.take 40).map cutV = l1 at hcut hlen hown1
  have hn1 : n1 ≤ 40 := by have := hown1.cap; omega
  have hrd1 := hown1.rd
  have HR := Lib.hid hrd1; have HC := Lib.hid hcut
  clear hr hok hsl hcut hown1 hlen hrd1
  go_wp2_with fail
  refine (new_any w1).mono ?_
  rintro e w2 ⟨rfl, hw2, hb2⟩
  have hs2 := hw2.blk.lt
  have hw3 : Wr (w2.alloc (.cells #[.slice none 0 0, .int .i64 0] 41)) w1.heap.size w1.heap.size (.slice none 0 0) [] 0 := hw2.after ((Below.refl _ _).alloc (Nat.le_refl _) _)
  have hz3 : Wr (w2.alloc (.cells #[.slice none 0 0, .int .i64 0] 41)) w1.heap.size w2.heap.size (.slice none 0 0) [] 0 := ⟨Blk.new _ _ _, Own.nil_, by omega⟩
  have hb3 : Below w1.heap.size w1 (w2.alloc (.cells #[.slice none 0 0, .int .i64 0] 41)) := hb2.alloc hb2.size _
  have hr3 := HR.out.after hb3
  have hsep : 0 < n1 → ∀ ad, A1 = some ad → ad.block < w1.heap.size := fun h => HR.out.lt h
  have HS := Lib.hid hsep; clear hsep
  have hz : (w2.alloc (.cells #[.slice none 0 0, .int .i64 0] 41)).heap.size = w2.heap.size + 1 := by simp
  go_wp2_with fail
  generalize w2.alloc (.cells #[.slice none 0 0, .int .i64 0] 41) = w3 at hw3 hz3 hb3 hr3 hz ⊢
  have HZ := Lib.hid hz; clear hz
  refine (writeAll_any w1.heap.size w1.heap.size _ [] 0 A1 n1 c1 l1 w3 hw3 hr3 (fun h ad had hx => by
    have := HS.out h ad had
    rcases hx with hx | hx
    · omega
    · cases hx) hn1 HC.out (by simp)).mono ?_
  rintro e w4 h4
  have hb4 := WPost.belowB hb3 hw3 h4 (Nat.le_refl _)
  obtain ⟨rfl, v4, hw4, hk4, hm4⟩ := h4
  have hr4 : Rd w4 w4.heap.size LV A1 n1 l1 := HR.out.after hb4
  have hz4 : Wr w4 w1.heap.size w2.heap.size (.slice none 0 0) [] 0 := hz3.beside hw3 (by omega) (fun k h => by cases h) hk4
  clear hz3 hw3 hr3 hb3 hk4 hm4
  have hfl : (l1.foldl wstep ([], 0)).1.length ≤ 10000 := by
    have := foldl_wstep_len l1 ([], 0) fun v hv => (HC.out v hv).2
    have h2 := HR.out.len
    simp at this; omega
  generalize hfin : l1.foldl wstep ([], 0) = fin at hw4 hfl
  have HFin := Lib.hid hfin; clear hfin
  go_wp2_with fail
  refine (writeAll_any w1.heap.size w2.heap.size _ [] 0 A1 n1 c1 l1 w4 hz4 hr4 (fun h ad had hx => by
    have := HS.out h ad had
    rcases hx with hx | hx
    · omega
    · cases hx) hn1 HC.out (by simp)).mono ?_
  rintro e w5 h5
  have hb5 := WPost.belowB hb4 hz4 h5 (Nat.le_refl _)
  obtain ⟨rfl, v5, hw5, hk5, hm5⟩ := h5
  have hw45 := hw4.beside hz4 (by omega) (fun k h e => by cases e) hk5
  rw [HFin.out] at hw5
  clear hw4 hz4 hk5 hm5 hb4 hr4
  have hr5 : Rd w5 w5.heap.size LV A1 n1 l1 := HR.out.after hb5
  go_wp2_with fail
  refine (bytes_any _ _ _ _ _ w5 hw45 (by omega)).mono ?_
  rintro e w6 ⟨A6, m6, c6, rfl, hown6, hb6⟩
  have hw6 := hw5.after hb6
  have hw46 := hw45.after hb6
  clear hw5 hw45
  go_wp2_with fail
  refine (bytes_any _ _ _ _ _ w6 hw6 (by omega)).mono ?_
  rintro e w7 ⟨A7, m7, c7, rfl, hown7, hb7⟩
  have hw47 := hw46.after hb7
  have ho67 := hown6.after hb7
  clear hw46 hw6 hown6
  have hb57 : Below w5.heap.size w5 w7 := hb6.trans (hb7.mono hb6.size)
  go_wp2_with fail
  refine (writeR_any A1 n1 c1 l1 w7 (hr5.after hb57) hn1 HC.out).mono ?_
  rintro e w8 ⟨A8, m8, c8, rfl, hown8, hb8⟩
  rw [HFin.out] at hown8 ⊢
  have hw48 := hw47.after hb8
  have ho68 := ho67.after hb8
  have ho78 := hown7.after hb8
  have hl8 := hown8.cap.1
  clear hw47 ho67 hown7 hr5
  obtain ⟨fo, ff⟩ := fin
  simp only at hw48 ho68 ho78 hown8 hfl hl8 ⊢
  have hcv6 : (convert 22 9 (.slice A6 m6 c6)).run Try.prog w8 = .ok (.string (str (gives fo ff))) w8 := run_conv8 Try.underlying22 Try.underlying5 Try.underlying9 ho68.rd
  have hcv7 : (convert 22 9 (.slice A7 m7 c7)).run Try.prog w8 = .ok (.string (str (gives fo ff))) w8 := run_conv8 Try.underlying22 Try.underlying5 Try.underlying9 ho78.rd
  have hcv8 : (convert 22 9 (.slice A8 m8 c8)).run Try.prog w8 = .ok (.string (str (gives fo ff))) w8 := run_conv8 Try.underlying22 Try.underlying5 Try.underlying9 hown8.rd
  have HL8 := Lib.hid hl8
  clear ho68 ho78 hown8 hl8
  have HW8 := Lib.hid hw48; clear hw48
  go_wp2_with fail
  refine (known_any w8).mono ?_
  rintro e w9 ⟨rfl, hb9⟩
  have hall : Below w.heap.size w w9 := hb1.trans ((hb5.trans ((hb57.trans ((hb8.trans (hb9.mono hb8.size)).mono hb57.size)).mono hb5.size)).mono hb1.size)
  have HA := Lib.hid hall
  have hw9 := HW8.out.after hb9
  clear hcv6 hcv7 hcv8
  by_cases hff : ff = 0
  · subst hff
    have hl9 : m8 = fo.length := HL8.out.symm
    subst hl9
    go_wp2_with fail
    refine (len_any _ _ _ _ _ w9 hw9).mono ?_
    rintro e w10 ⟨rfl, rfl⟩
    go_wp2
    go_returns
    exact ⟨rfl, HA.out⟩
  · have e0 : ((ff : Int) != 0) = true := by simp; omega
    go_wp2
    go_returns
    exact ⟨rfl, HA.out⟩
end Go.Proofs.Ytogagcdlkhinjaa
