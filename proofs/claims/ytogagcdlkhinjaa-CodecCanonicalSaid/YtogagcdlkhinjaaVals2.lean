/- The law's own write for texts of up to 1000 bytes: values written one after the other. -/
import Derived.Test.YtogagcdlkhinjaaVals
namespace Go.Proofs.Ytogagcdlkhinjaa
open Go.RowKit
set_option maxRecDepth 100000
theorem wstep_len2 (s : List UInt8 × Nat) (v : V) (h : v.s.length ≤ 1000) : (wstep s v).1.length ≤ s.1.length + 1010 := by
  have h1 := (nat_len v.n.toNat).2; have h2 := (nat_len (sgn v.n)).2; have h3 := (nat_len v.s.length).2
  unfold wstep
  split
  · split
    · simp
    · have := put_len s.1 (nat v.n.toNat) s.2; simp only; omega
  · have := put_len s.1 (nat (sgn v.n)) s.2; simp only; omega
  · have := put_len s.1 [if v.is then 1 else 0] s.2; simp at this ⊢; omega
  · have := put_len s.1 (nat v.s.length ++ v.s) s.2; simp at this ⊢; omega
theorem foldl_wstep_len2 (l : List V) (s : List UInt8 × Nat) (h : ∀ v ∈ l, v.s.length ≤ 1000) : (l.foldl wstep s).1.length ≤ s.1.length + 1010 * l.length := by
  induction l generalizing s with
  | nil => simp
  | cons a r ih =>
    have h1 := wstep_len2 s a (h a (by simp))
    have h2 := ih (wstep s a) (fun v hv => h v (by simp [hv]))
    simp only [List.foldl_cons, List.length_cons]; omega
set_option maxHeartbeats 2000000 in
theorem writeAll2_any (base g : Nat) (v : Value) (out : List UInt8) (f : Nat) (A : Option Addr) (n c : Nat) (l : List V) (w : World) (hw : Wr w base g v out f) (hr : Rd w w.heap.size LV A n l) (hsep : 0 < n → ∀ ad, A = some ad → ¬ WS g v ad.block)
    (hn : n ≤ 40) (hs : ∀ x ∈ l, x.Ok ∧ x.s.length ≤ 1000) (hroom : out.length ≤ 1000000) :
    Calls Try.prog 18 #[.pointer (some ⟨g, 0, none⟩), .slice A n c] w fun e w' => WPost base g v w (l.foldl wstep (out, f)).1 (l.foldl wstep (out, f)).2 e w' := by
  have HR := Lib.hid hr; have HS := Lib.hid hs; have HP := Lib.hid hsep; have HW := Lib.hid hw
  clear hr hs hsep hw
  go_enter Try.func18, Try.ntmps18
  go_wp2
  go_loopw [4] (fun i wr => ∃ (k : Nat) (v1 : Value), k ≤ n ∧ i = .int .i64 (k : Nat) ∧ Wr wr base g v1 ((l.take k).foldl wstep (out, f)).1 ((l.take k).foldl wstep (out, f)).2 ∧ Keep (WS g v) w wr ∧ Moved w v v1) (fun i _ => n - (intOf i).toNat)
  case atStart => exact ⟨0, v, by omega, rfl, HW.out, Keep.refl _ _, .inl rfl⟩
  case round =>
    obtain ⟨k, v1, hk, rfl, hwr, hkeep, hmv⟩ := hrel
    by_cases hlt : k < n
    · obtain ⟨b, o, x, rfl, hab, hx, c0, c1, c2, c3, c4⟩ := (HR.out.kept hkeep (Nat.le_refl _) HP.out).v hlt
      obtain ⟨hok, h1000⟩ := HS.out x (List.mem_of_getElem? hx)
      have hnew : (l.take (k + 1)).foldl wstep (out, f) = wstep ((l.take k).foldl wstep (out, f)) x := by rw [List.take_add_one, hx]; simp
      have hcl : ((l.take k).foldl wstep (out, f)).1.length ≤ out.length + 1010 * k := by
        have := foldl_wstep_len2 (l.take k) (out, f) (fun y hy => (HS.out y (List.mem_of_mem_take hy)).2)
        have h2 : (l.take k).length ≤ k := List.length_take_le _ _
        simp only at this; omega
      generalize (l.take k).foldl wstep (out, f) = s at hwr hnew hcl
      have HN := Lib.hid hnew; have HK := Lib.hid hok; have HX := Lib.hid hx
      clear hnew hok hx
      have hsl : s.1.length ≤ 1100000 := by omega
      have fin : ∀ (out' : List UInt8) (f' : Nat) (w' : World), wstep s x = (out', f') → WPost base g v1 wr out' f' (.returned (.tuple #[])) w' → ∃ v2, Wr w' base g v2 ((l.take (k + 1)).foldl wstep (out, f)).1 ((l.take (k + 1)).foldl wstep (out, f)).2 ∧ Keep (WS g v) w w' ∧ Moved w v v2 := fun out' f' w' he h => by
        obtain ⟨_, v2, h1, h2, h3⟩ := WPost.chain hkeep hmv h
        refine ⟨v2, ?_, h2, h3⟩
        rw [HN.out, he]; exact h1
      have HF := Lib.hid fin; clear fin
      have hlt4 : x.kind.toNat % 4 < 4 := Nat.mod_lt _ (by decide)
      rcases (show x.kind.toNat % 4 = 0 ∨ x.kind.toNat % 4 = 1 ∨ x.kind.toNat % 4 = 2 ∨ x.kind.toNat % 4 = 3 by omega) with h | h | h | h
      · have e0 : ((x.kind.toNat : Int) % 4 == 0) = true := by simp; omega
        have H4 := Lib.hid h; clear h
        by_cases hneg : x.n < 0
        · go_wp2_with fail
          refine (number_neg base g v1 s.1 s.2 x.n wr hwr hneg).mono ?_
          rintro e w' h
          obtain rfl := h.1
          obtain ⟨v2, q1, q2, q3⟩ := HF.out _ _ _ (by unfold wstep; rw [H4.out]; simp only []; rw [if_pos hneg]) h
          have Q := Lib.hid (And.intro q1 (And.intro q2 q3))
          clear h q1 q2 q3
          go_wp2
          go_roundw
          case rel => exact ⟨k + 1, v2, by omega, by go_num, Q.out⟩
          case measure => simp [intOf]; omega
        · obtain ⟨m, hm⟩ := Int.eq_ofNat_of_zero_le (Int.not_lt.1 hneg)
          have hml : m < 9223372036854775808 := by have := HK.out.n2; omega
          rw [hm] at c1
          have HM := Lib.hid hm; clear hm hneg
          go_wp2_with fail
          refine (number_any base g v1 s.1 s.2 m wr hwr hml (by omega)).mono ?_
          rintro e w' h
          obtain rfl := h.1
          obtain ⟨v2, q1, q2, q3⟩ := HF.out _ _ _ (by unfold wstep; rw [H4.out]; simp only []; rw [HM.out, if_neg (by omega)]; rfl) h
          have Q := Lib.hid (And.intro q1 (And.intro q2 q3))
          clear h q1 q2 q3
          go_wp2
          go_roundw
          case rel => exact ⟨k + 1, v2, by omega, by go_num, Q.out⟩
          case measure => simp [intOf]; omega
      · have e0 : ((x.kind.toNat : Int) % 4 == 0) = false := by simp; omega
        have e1 : ((x.kind.toNat : Int) % 4 == 1) = true := by simp; omega
        have H4 := Lib.hid h; clear h
        by_cases hneg : x.n < 0
        · obtain ⟨m, hm⟩ : ∃ m : Nat, x.n = -(m : Int) - 1 := ⟨(-x.n - 1).toNat, by omega⟩
          have hml : m < 9223372036854775808 := by have := HK.out.n1; omega
          rw [hm] at c1
          have HM := Lib.hid hm; clear hm hneg
          go_wp2_with fail
          refine (signed_neg base g v1 s.1 s.2 m wr hwr hml (by omega)).mono ?_
          rintro e w' h
          obtain rfl := h.1
          obtain ⟨v2, q1, q2, q3⟩ := HF.out _ _ _ (by unfold wstep; rw [H4.out]; simp only []; rw [HM.out, sgn_neg]) h
          have Q := Lib.hid (And.intro q1 (And.intro q2 q3))
          clear h q1 q2 q3
          go_wp2
          go_roundw
          case rel => exact ⟨k + 1, v2, by omega, by go_num, Q.out⟩
          case measure => simp [intOf]; omega
        · obtain ⟨m, hm⟩ := Int.eq_ofNat_of_zero_le (Int.not_lt.1 hneg)
          have hml : m < 9223372036854775808 := by have := HK.out.n2; omega
          rw [hm] at c1
          have HM := Lib.hid hm; clear hm hneg
          go_wp2_with fail
          refine (signed_pos base g v1 s.1 s.2 m wr hwr hml (by omega)).mono ?_
          rintro e w' h
          obtain rfl := h.1
          obtain ⟨v2, q1, q2, q3⟩ := HF.out _ _ _ (by unfold wstep; rw [H4.out]; simp only []; rw [HM.out, sgn_pos]) h
          have Q := Lib.hid (And.intro q1 (And.intro q2 q3))
          clear h q1 q2 q3
          go_wp2
          go_roundw
          case rel => exact ⟨k + 1, v2, by omega, by go_num, Q.out⟩
          case measure => simp [intOf]; omega
      · have e0 : ((x.kind.toNat : Int) % 4 == 0) = false := by simp; omega
        have e1 : ((x.kind.toNat : Int) % 4 == 1) = false := by simp; omega
        have e2 : ((x.kind.toNat : Int) % 4 == 2) = true := by simp; omega
        have H4 := Lib.hid h; clear h
        go_wp2_with fail
        refine (flag_any base g v1 s.1 s.2 x.is wr hwr (by omega)).mono ?_
        rintro e w' h
        obtain rfl := h.1
        obtain ⟨v2, q1, q2, q3⟩ := HF.out _ _ _ (by unfold wstep; rw [H4.out]; rfl) h
        have Q := Lib.hid (And.intro q1 (And.intro q2 q3))
        clear h q1 q2 q3
        go_wp2
        go_roundw
        case rel => exact ⟨k + 1, v2, by omega, by go_num, Q.out⟩
        case measure => simp [intOf]; omega
      · have e0 : ((x.kind.toNat : Int) % 4 == 0) = false := by simp; omega
        have e1 : ((x.kind.toNat : Int) % 4 == 1) = false := by simp; omega
        have e2 : ((x.kind.toNat : Int) % 4 == 2) = false := by simp; omega
        have H4 := Lib.hid h; clear h
        go_wp2_with fail
        refine (text_any base g v1 s.1 x.s s.2 wr hwr (by omega) (by omega)).mono ?_
        rintro e w' h
        obtain rfl := h.1
        obtain ⟨v2, q1, q2, q3⟩ := HF.out _ _ _ (by unfold wstep; rw [H4.out]; rfl) h
        have Q := Lib.hid (And.intro q1 (And.intro q2 q3))
        clear h q1 q2 q3
        go_wp2
        go_roundw
        case rel => exact ⟨k + 1, v2, by omega, by go_num, Q.out⟩
        case measure => simp [intOf]; omega
    · obtain rfl : k = n := by omega
      have he : l.take k = l := by have := HR.out.len; rw [← this]; exact List.take_length
      rw [he] at hwr
      have Q := Lib.hid (And.intro hwr (And.intro hkeep hmv))
      clear he hwr hkeep hmv
      go_wp2
      go_returns
      exact ⟨rfl, v1, Q.out⟩
end Go.Proofs.Ytogagcdlkhinjaa
