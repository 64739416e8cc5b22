/- The walk of BlocksDecodes. -/
import Derived.Test.YtbeemkamjachpaaB34
import Derived.Test.YtbeemkamjachpaaB26
namespace Go.Proofs.Ytbeemkamjachpaa
open Go.RowKit
set_option maxRecDepth 100000
theorem bl_tr2D {N : Nat} {a w w' : World} (h : Below N a w) (k : Below w.heap.size w w') (hN : N ≤ w.heap.size) : Below N a w' := h.trans (k.mono hN)
set_option maxHeartbeats 4000000 in
theorem blocksDecodes_walk (l : List UInt8) (W : World) : Calls Try.prog 10 #[.string (str l)] W fun e w' => e = .returned (.bool true) ∧ Below W.heap.size W w' := by
  by_cases hlen : l.length ≤ 100
  · have HD := Lib.hid (fun W => decode_any l W (by omega)); have HR := Lib.hid (fun W => rdecode_any l hlen W)
    rw [dec_same l] at HD
    have hsz : (str l).size ≤ 100 := hlen
    have HG := Lib.hid (show ∀ f st, dR l = some (f, st) → good f st ∧ l = encB f st from fun f st h => dR_some h)
    obtain ⟨d, hd⟩ : ∃ d, dR l = d := ⟨_, rfl⟩
    rw [hd] at HD HR HG
    clear hd hlen
    go_enter Try.func10, Try.ntmps10
    go_wp2_with fail
    refine (known_any W).mono ?_
    rintro e w1 ⟨rfl, hb1⟩
    have B1 := Lib.hid hb1
    clear hb1
    go_wp2_with fail
    refine (HD.out w1).mono ?_
    rintro e w2 ⟨hor, hb2⟩
    have B2 := Lib.hid (bl_tr2D B1.out hb2 B1.out.size)
    have HO := Lib.hid hor
    clear hb2 hor B1
    rcases HO.out with ⟨hd, rfl⟩ | ⟨f, st, b, s, hd, rfl, hmp, hs⟩
    · subst hd
      clear HO
      go_wp2_with fail
      refine (HR.out w2).mono ?_
      rintro e w3 ⟨hor, hb3⟩
      rcases hor with ⟨-, rfl⟩ | ⟨f, st, A, c, h, -⟩
      · have B3 := Lib.hid (bl_tr2D B2.out hb3 B2.out.size)
        have B4 := Lib.hid (B3.out.alloc B3.out.size (.cells #[.int .i64 0, .slice none 0 0] 28))
        clear hb3 B2 B3
        go_wp2
        go_returns
        exact ⟨rfl, B4.out⟩
      · cases h
    · subst hd
      obtain ⟨hg, hl⟩ := HG.out f st rfl
      have M2 := Lib.hid hmp; have HGd := Lib.hid hg; have HL := Lib.hid hl
      clear hmp hs hg hl HO HG HD
      have nq : ∀ w, (binOp .eql 25 (.pointer (some ⟨b, 0, none⟩)) (.pointer none)).run Try.prog w = .ok (.bool false) w := fun w => by kernel_rfl
      go_wp2_with fail
      refine (HR.out w2).mono ?_
      rintro e w3 ⟨hor, hb3⟩
      rcases hor with ⟨h, -⟩ | ⟨f', st', A, c, h, rfl, hrd⟩
      · cases h
      injection h with h
      injection h with h1 h2
      subst h1; subst h2
      have hbl := (Below.refl _ w3).alloc (Nat.le_refl _) (.cells #[.int .i64 (f : Nat), .slice A st.length c] 28)
      have B3 := Lib.hid (bl_tr2D B2.out (hb3.trans (hbl.mono hb3.size)) B2.out.size); have M3 := Lib.hid ((M2.out.after hb3).after hbl); have R3 := Lib.hid (hrd.after hbl); have T3 := Lib.hid (Blk.new w3 28 #[.int .i64 (f : Nat), .slice A st.length c])
      clear hb3 hrd hbl M2 B2 HR
      obtain ⟨N, hN⟩ : ∃ N, st.length = N := ⟨_, rfl⟩
      have HS := Lib.hid (fun W (hm : MpAt W b s f st) (hr : Rd W W.heap.size LI A N (RL st)) => Same_any b s f c st A W hm (by rw [hN]; exact hr))
      rw [hN] at T3 B3 M3 R3 HS ⊢
      unfold RM at HS ⊢
      clear hN
      go_wp2_with fail
      generalize w3.alloc (.cells #[.int .i64 (f : Nat), .slice A N c] 28) = w4 at B3 M3 R3 T3 ⊢
      refine (HS.out w4 M3.out R3.out).mono ?_
      rintro e w5 ⟨rfl, hb5⟩
      have B5 := Lib.hid (bl_tr2D B3.out hb5 B3.out.size); have M5 := Lib.hid (M3.out.after hb5)
      clear hb5 B3 M3 R3 T3 HS
      go_wp2_with fail
      refine (encode_any b s f st w5 M5.out).mono ?_
      rintro e w6 ⟨rfl, hb6⟩
      have B6 := Lib.hid (bl_tr2D B5.out hb6 B5.out.size)
      rw [← HL.out]
      clear hb6 B5 M5
      go_wp2
      go_returns
      exact ⟨rfl, B6.out⟩
  · have hsz : ¬ (str l).size ≤ 100 := hlen
    have hsz2 : 100 < (str l).size := by omega
    clear hlen
    go_enter Try.func10, Try.ntmps10
    go_wp2_with fail
    refine (known_any W).mono ?_
    rintro e w1 ⟨rfl, hb1⟩
    have B1 := Lib.hid hb1
    clear hb1
    go_wp2_with fail
    refine (known_any w1).mono ?_
    rintro e w2 ⟨rfl, hb2⟩
    have B2 := Lib.hid (bl_tr2D B1.out hb2 B1.out.size)
    clear hb2
    go_wp2
    go_returns
    exact ⟨rfl, B2.out⟩
end Go.Proofs.Ytbeemkamjachpaa
