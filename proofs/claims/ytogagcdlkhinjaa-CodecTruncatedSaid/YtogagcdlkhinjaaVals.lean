/- The values of the laws on sequences (struct V), as Lean data, and how a slice of them lies in memory. -/
import Derived.Test.YtogagcdlkhinjaaKnown
namespace Go.Proofs.Ytogagcdlkhinjaa
open Go.RowKit
set_option maxRecDepth 100000
structure V where
  kind : UInt8
  n : Int
  is : Bool
  s : List UInt8
  most : Int
/-- The numbers fit an int, the text is no longer than a string may be. -/
structure V.Ok (v : V) : Prop where
  n1 : -9223372036854775808 ≤ v.n
  n2 : v.n < 9223372036854775808
  m1 : -9223372036854775808 ≤ v.most
  m2 : v.most < 9223372036854775808
  s1 : v.s.length ≤ maxLen
def LV : Lay V := { size := 5, enc := fun v => [b8 v.kind, .int .i64 v.n, .bool v.is, .string (str v.s), .int .i64 v.most], pos := by decide, len := fun _ => rfl, one := fun a u hu => by simp at hu; rcases hu with rfl | rfl | rfl | rfl | rfl <;> rfl }
theorem ElV : Elem Try.prog 36 51 LV.size 48 := Elem.of (z := .agg #[.int .u8 0, .int .i64 0, .bool false, .string ByteArray.empty, .int .i64 0]) Try.underlying36 (by kernel_rfl) rfl
/-- The cells of element k. -/
theorem Rd.v {w : World} {B n k : Nat} {A : Option Addr} {l : List V} (h : Rd w B LV A n l) (hk : k < n) :
    ∃ b o x, A = some ⟨b, o, none⟩ ∧ b < B ∧ l[k]? = some x ∧ w.cell? ⟨b, o + k * 5, none⟩ = some (.int .u8 (x.kind.toNat : Int)) ∧ w.cell? ⟨b, o + k * 5 + 1, none⟩ = some (.int .i64 x.n) ∧ w.cell? ⟨b, o + k * 5 + 2, none⟩ = some (.bool x.is) ∧ w.cell? ⟨b, o + k * 5 + 3, none⟩ = some (.string (str x.s)) ∧ w.cell? ⟨b, o + k * 5 + 4, none⟩ = some (.int .i64 x.most) := by
  obtain ⟨b, o, x, e, hb, hx, hc⟩ := h.nth hk
  exact ⟨b, o, x, e, hb, hx, hc 0 _ rfl, hc 1 _ rfl, hc 2 _ rfl, hc 3 _ rfl, hc 4 _ rfl⟩
/-- The law's own limit on a value: its text has at most 200 bytes. -/
def cutV (v : V) : V := { v with s := v.s.take (min v.s.length 200) }
set_option maxHeartbeats 1000000 in
theorem short_any (A : Option Addr) (n c : Nat) (l : List V) (w : World) (hr : Rd w w.heap.size LV A n l) (hn : n ≤ 9223372036854775807) (hs : ∀ v ∈ l, v.s.length ≤ 9223372036854775807) :
    Calls Try.prog 16 #[.slice A n c] w fun e w' => ∃ A' m c', e = .returned (.slice A' m c') ∧ Own w' w.heap.size 51 LV (.slice A' m c') ((l.take 40).map cutV) ∧ Below w.heap.size w w' := by
  have HR := Lib.hid hr; have HS := Lib.hid hs
  clear hr hs
  go_enter Try.func16, Try.ntmps16
  go_wp2
  go_loopw [3, 4] (fun v i wr => ∃ k : Nat, k ≤ n ∧ k ≤ 40 ∧ i = .int .i64 (k : Nat) ∧ Own wr w.heap.size 51 LV v ((l.take k).map cutV) ∧ Below w.heap.size w wr) (fun _ i _ => n - (intOf i).toNat)
  case atStart => exact ⟨0, by omega, by omega, rfl, Own.nil_, Below.refl _ _⟩
  case round =>
    obtain ⟨k, hk, hk40, rfl, hown, hb⟩ := hrel
    have hsz := hb.size
    by_cases hlt : k < n
    · by_cases hlt40 : k < 40
      · obtain ⟨b, o, x, rfl, hab, hx, c0, c1, c2, c3, c4⟩ := (HR.out.below hb).v hlt
        have hm : ∃ m, m = min x.s.length 200 ∧ min (((str x.s).size : Nat) : Int) 200 = ((m : Nat) : Int) ∧ (str x.s).extract 0 m = str (cutV x).s ∧ m ≤ (str x.s).size :=
          ⟨_, rfl, by rw [str_size]; omega, by rw [str_extract]; rfl, by rw [str_size]; omega⟩
        obtain ⟨m, -, hm1, hm2, hm3⟩ := hm
        have hlen : ((l.take k).map cutV).length = k := by have := HR.out.len; simp; omega
        have HL := Lib.hid hlen
        have hnew : (l.take (k + 1)).map cutV = (l.take k).map cutV ++ [cutV x] := by rw [List.take_add_one, hx]; simp
        generalize (l.take k).map cutV = cur at hown hnew hlen HL
        have HN := Lib.hid hnew
        have hlen' : cur.length ≤ 40 := by omega
        have hy : ∀ W : World, ∀ j u, (LV.enc (cutV x))[j]? = some u → (W.alloc (.cells #[.int .u8 (x.kind.toNat : Int), .int .i64 x.n, .bool x.is, .string (str (cutV x).s), .int .i64 x.most] 51)).cell? ((⟨W.heap.size, 0, none⟩ : Addr).add j) = some u := fun W => new_at rfl
        have HY := Lib.hid hy
        clear hx hnew hlen hy
        go_wp2_with (at_builtin; refine ap_one _ rfl _ _ ElV rfl w.heap.size _ cur rfl ((hown.alloc _).alloc _) _ _ (cutV x) rfl ?c1 ?c2 ?c3 ?c4 ?_)
        case c1 => simpa using HY.out (wr.alloc _)
        case c2 => omega
        case c3 => omega
        case c4 => simp; omega
        intro A' c' w' hown' hg _ _ _
        have hb' := (hown.alloc _).alloc _ |>.belowGrown ((hb.alloc hsz _).alloc (by simp; omega) _) (by simp; omega) (Nat.le_refl _) hg
        rw [← HN.out] at hown'
        have HO := Lib.hid hown'
        clear hg hown hb hown' c0 c1 c2 c3 c4 hm1 hm2 hm3
        go_wp2
        go_roundw
        case rel => exact ⟨k + 1, by omega, by omega, by go_num, HO.out, hb'⟩
        case measure => simp [intOf]; omega
      · obtain rfl : k = 40 := by omega
        obtain ⟨A', n', c', rfl⟩ := hown.sl
        have HO := Lib.hid hown
        clear hown
        go_wp2
        go_ret
        exact ⟨_, _, _, rfl, HO.out, hb⟩
    · obtain rfl : k = n := by omega
      have he : l.take k = l.take 40 := by have := HR.out.len; rw [List.take_of_length_le (by omega), List.take_of_length_le (by omega)]
      rw [he] at hown
      obtain ⟨A', n', c', rfl⟩ := hown.sl
      have HO := Lib.hid hown
      clear hown he
      go_wp2
      go_ret
      exact ⟨_, _, _, rfl, HO.out, hb⟩
/-- What write leaves in a Writer, value by value. -/
def sgn (n : Int) : Nat := if n < 0 then (-2 * n - 1).toNat else (2 * n).toNat
def wstep (s : List UInt8 × Nat) (v : V) : List UInt8 × Nat :=
  match v.kind.toNat % 4 with
  | 0 => if v.n < 0 then (s.1, erred s.2 2) else (put s.1 s.2 (nat v.n.toNat), s.2)
  | 1 => (put s.1 s.2 (nat (sgn v.n)), s.2)
  | 2 => (put s.1 s.2 [if v.is then 1 else 0], s.2)
  | _ => (put s.1 s.2 (nat v.s.length ++ v.s), s.2)
theorem sgn_pos (n : Nat) : sgn (n : Int) = 2 * n := by unfold sgn; rw [if_neg (by omega)]; omega
theorem sgn_neg (n : Nat) : sgn (-(n : Int) - 1) = 2 * n + 1 := by unfold sgn; rw [if_pos (by omega)]; omega
theorem put_len (out b : List UInt8) (f : Nat) : (put out f b).length ≤ out.length + b.length := by unfold put; split <;> simp
theorem wstep_len (s : List UInt8 × Nat) (v : V) (h : v.s.length ≤ 200) : (wstep s v).1.length ≤ s.1.length + 210 := by
  have h1 := (nat_len v.n.toNat).2; have h2 := (nat_len (sgn v.n)).2; have h3 := (nat_len v.s.length).2
  unfold wstep
  split
  · split
    · simp
    · have := put_len s.1 (nat v.n.toNat) s.2; simp only; omega
  · have := put_len s.1 (nat (sgn v.n)) s.2; simp only; omega
  · have := put_len s.1 [if v.is then 1 else 0] s.2; simp at this ⊢; omega
  · have := put_len s.1 (nat v.s.length ++ v.s) s.2; simp at this ⊢; omega
theorem foldl_wstep_len (l : List V) (s : List UInt8 × Nat) (h : ∀ v ∈ l, v.s.length ≤ 200) : (l.foldl wstep s).1.length ≤ s.1.length + 210 * l.length := by
  induction l generalizing s with
  | nil => simp
  | cons a r ih =>
    have h1 := wstep_len s a (h a (by simp))
    have h2 := ih (wstep s a) (fun v hv => h v (by simp [hv]))
    simp only [List.foldl_cons, List.length_cons]; omega
/-- Chaining a Writer's steps. -/
theorem WPost.chain {base g : Nat} {v v1 : Value} {a w w' : World} {out : List UInt8} {f : Nat} {e : Ending} (hk : Keep (WS g v) a w) (hm : Moved a v v1) (h : WPost base g v1 w out f e w') : WPost base g v a out f e w' := by
  obtain ⟨rfl, v', h1, h2, h3⟩ := h
  exact ⟨rfl, v', h1, hk.trans h2 (WS.sub hm), hm.trans h3 hk.size⟩
set_option maxHeartbeats 2000000 in
theorem writeAll_any (base g : Nat) (v : Value) (out : List UInt8) (f : Nat) (A : Option Addr) (n c : Nat) (l : List V) (w : World) (hw : Wr w base g v out f) (hr : Rd w w.heap.size LV A n l) (hsep : 0 < n → ∀ ad, A = some ad → ¬ WS g v ad.block)
    (hn : n ≤ 40) (hs : ∀ x ∈ l, x.Ok ∧ x.s.length ≤ 200) (hroom : out.length ≤ 1000000) :
    Calls Try.prog 18 #[.pointer (some ⟨g, 0, none⟩), .slice A n c] w fun e w' => WPost base g v w (l.foldl wstep (out, f)).1 (l.foldl wstep (out, f)).2 e w' := by
  have HR := Lib.hid hr; have HS := Lib.hid hs; have HP := Lib.hid hsep; have HW := Lib.hid hw
  clear hr hs hsep hw
  go_enter Try.func18, Try.ntmps18
  go_wp2
  go_loopw [4] (fun i wr => ∃ (k : Nat) (v1 : Value), k ≤ n ∧ i = .int .i64 (k : Nat) ∧ Wr wr base g v1 ((l.take k).foldl wstep (out, f)).1 ((l.take k).foldl wstep (out, f)).2 ∧ Keep (WS g v) w wr ∧ Moved w v v1) (fun i _ => n - (intOf i).toNat)
  case atStart => exact ⟨0, v, by omega, rfl, HW.out, Keep.refl _ _, .inl rfl⟩
  case round =>
    obtain ⟨k, v1, hk, rfl, hwr, hkeep, hmv⟩ := hrel
    by_cases hlt : k < n
    · obtain ⟨b, o, x, rfl, hab, hx, c0, c1, c2, c3, c4⟩ := (HR.out.kept hkeep (Nat.le_refl _) HP.out).v hlt
      obtain ⟨hok, h200⟩ := HS.out x (List.mem_of_getElem? hx)
      have hnew : (l.take (k + 1)).foldl wstep (out, f) = wstep ((l.take k).foldl wstep (out, f)) x := by rw [List.take_add_one, hx]; simp
      have hcl : ((l.take k).foldl wstep (out, f)).1.length ≤ out.length + 210 * k := by
        have := foldl_wstep_len (l.take k) (out, f) (fun y hy => (HS.out y (List.mem_of_mem_take hy)).2)
        have h2 : (l.take k).length ≤ k := List.length_take_le _ _
        simp only at this; omega
      generalize (l.take k).foldl wstep (out, f) = s at hwr hnew hcl
      have HN := Lib.hid hnew; have HK := Lib.hid hok; have HX := Lib.hid hx
      clear hnew hok hx
      have hsl : s.1.length ≤ 1100000 := by omega
      have fin : ∀ (out' : List UInt8) (f' : Nat) (w' : World), wstep s x = (out', f') → WPost base g v1 wr out' f' (.returned (.tuple #[])) w' → ∃ v2, Wr w' base g v2 ((l.take (k + 1)).foldl wstep (out, f)).1 ((l.take (k + 1)).foldl wstep (out, f)).2 ∧ Keep (WS g v) w w' ∧ Moved w v v2 := fun out' f' w' he h => by
        obtain ⟨_, v2, h1, h2, h3⟩ := WPost.chain hkeep hmv h
        refine ⟨v2, ?_, h2, h3⟩
        rw [HN.out, he]; exact h1
      have HF := Lib.hid fin; clear fin
      have hlt4 : x.kind.toNat % 4 < 4 := Nat.mod_lt _ (by decide)
      rcases (show x.kind.toNat % 4 = 0 ∨ x.kind.toNat % 4 = 1 ∨ x.kind.toNat % 4 = 2 ∨ x.kind.toNat % 4 = 3 by omega) with h | h | h | h
      · have e0 : ((x.kind.toNat : Int) % 4 == 0) = true := by simp; omega
        have H4 := Lib.hid h; clear h
        by_cases hneg : x.n < 0
        · go_wp2_with fail
          refine (number_neg base g v1 s.1 s.2 x.n wr hwr hneg).mono ?_
          rintro e w' h
          obtain rfl := h.1
          obtain ⟨v2, q1, q2, q3⟩ := HF.out _ _ _ (by unfold wstep; rw [H4.out]; simp only []; rw [if_pos hneg]) h
          have Q := Lib.hid (And.intro q1 (And.intro q2 q3))
          clear h q1 q2 q3
          go_wp2
          go_roundw
          case rel => exact ⟨k + 1, v2, by omega, by go_num, Q.out⟩
          case measure => simp [intOf]; omega
        · obtain ⟨m, hm⟩ := Int.eq_ofNat_of_zero_le (Int.not_lt.1 hneg)
          have hml : m < 9223372036854775808 := by have := HK.out.n2; omega
          rw [hm] at c1
          have HM := Lib.hid hm; clear hm hneg
          go_wp2_with fail
          refine (number_any base g v1 s.1 s.2 m wr hwr hml (by omega)).mono ?_
          rintro e w' h
          obtain rfl := h.1
          obtain ⟨v2, q1, q2, q3⟩ := HF.out _ _ _ (by unfold wstep; rw [H4.out]; simp only []; rw [HM.out, if_neg (by omega)]; rfl) h
          have Q := Lib.hid (And.intro q1 (And.intro q2 q3))
          clear h q1 q2 q3
          go_wp2
          go_roundw
          case rel => exact ⟨k + 1, v2, by omega, by go_num, Q.out⟩
          case measure => simp [intOf]; omega
      · have e0 : ((x.kind.toNat : Int) % 4 == 0) = false := by simp; omega
        have e1 : ((x.kind.toNat : Int) % 4 == 1) = true := by simp; omega
        have H4 := Lib.hid h; clear h
        by_cases hneg : x.n < 0
        · obtain ⟨m, hm⟩ : ∃ m : Nat, x.n = -(m : Int) - 1 := ⟨(-x.n - 1).toNat, by omega⟩
          have hml : m < 9223372036854775808 := by have := HK.out.n1; omega
          rw [hm] at c1
          have HM := Lib.hid hm; clear hm hneg
          go_wp2_with fail
          refine (signed_neg base g v1 s.1 s.2 m wr hwr hml (by omega)).mono ?_
          rintro e w' h
          obtain rfl := h.1
          obtain ⟨v2, q1, q2, q3⟩ := HF.out _ _ _ (by unfold wstep; rw [H4.out]; simp only []; rw [HM.out, sgn_neg]) h
          have Q := Lib.hid (And.intro q1 (And.intro q2 q3))
          clear h q1 q2 q3
          go_wp2
          go_roundw
          case rel => exact ⟨k + 1, v2, by omega, by go_num, Q.out⟩
          case measure => simp [intOf]; omega
        · obtain ⟨m, hm⟩ := Int.eq_ofNat_of_zero_le (Int.not_lt.1 hneg)
          have hml : m < 9223372036854775808 := by have := HK.out.n2; omega
          rw [hm] at c1
          have HM := Lib.hid hm; clear hm hneg
          go_wp2_with fail
          refine (signed_pos base g v1 s.1 s.2 m wr hwr hml (by omega)).mono ?_
          rintro e w' h
          obtain rfl := h.1
          obtain ⟨v2, q1, q2, q3⟩ := HF.out _ _ _ (by unfold wstep; rw [H4.out]; simp only []; rw [HM.out, sgn_pos]) h
          have Q := Lib.hid (And.intro q1 (And.intro q2 q3))
          clear h q1 q2 q3
          go_wp2
          go_roundw
          case rel => exact ⟨k + 1, v2, by omega, by go_num, Q.out⟩
          case measure => simp [intOf]; omega
      · have e0 : ((x.kind.toNat : Int) % 4 == 0) = false := by simp; omega
        have e1 : ((x.kind.toNat : Int) % 4 == 1) = false := by simp; omega
        have e2 : ((x.kind.toNat : Int) % 4 == 2) = true := by simp; omega
        have H4 := Lib.hid h; clear h
        go_wp2_with fail
        refine (flag_any base g v1 s.1 s.2 x.is wr hwr (by omega)).mono ?_
        rintro e w' h
        obtain rfl := h.1
        obtain ⟨v2, q1, q2, q3⟩ := HF.out _ _ _ (by unfold wstep; rw [H4.out]; rfl) h
        have Q := Lib.hid (And.intro q1 (And.intro q2 q3))
        clear h q1 q2 q3
        go_wp2
        go_roundw
        case rel => exact ⟨k + 1, v2, by omega, by go_num, Q.out⟩
        case measure => simp [intOf]; omega
      · have e0 : ((x.kind.toNat : Int) % 4 == 0) = false := by simp; omega
        have e1 : ((x.kind.toNat : Int) % 4 == 1) = false := by simp; omega
        have e2 : ((x.kind.toNat : Int) % 4 == 2) = false := by simp; omega
        have H4 := Lib.hid h; clear h
        go_wp2_with fail
        refine (text_any base g v1 s.1 x.s s.2 wr hwr (by omega) (by omega)).mono ?_
        rintro e w' h
        obtain rfl := h.1
        obtain ⟨v2, q1, q2, q3⟩ := HF.out _ _ _ (by unfold wstep; rw [H4.out]; rfl) h
        have Q := Lib.hid (And.intro q1 (And.intro q2 q3))
        clear h q1 q2 q3
        go_wp2
        go_roundw
        case rel => exact ⟨k + 1, v2, by omega, by go_num, Q.out⟩
        case measure => simp [intOf]; omega
    · obtain rfl : k = n := by omega
      have he : l.take k = l := by have := HR.out.len; rw [← this]; exact List.take_length
      rw [he] at hwr
      have Q := Lib.hid (And.intro hwr (And.intro hkeep hmv))
      clear he hwr hkeep hmv
      go_wp2
      go_returns
      exact ⟨rfl, v1, Q.out⟩
end Go.Proofs.Ytogagcdlkhinjaa
