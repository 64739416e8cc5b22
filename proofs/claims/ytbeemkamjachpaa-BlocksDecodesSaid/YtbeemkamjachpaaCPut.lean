/- The Writer's methods Number, Signed, Flag, Text, and NewWriter, Bytes, Len. -/
import Derived.Test.YtbeemkamjachpaaCWrite
namespace Go.Proofs.Ytbeemkamjachpaa
open Go.RowKit
set_option maxRecDepth 100000
/-- What a Writer holds behind a write of some bytes, or behind an error. -/
def put (out : List UInt8) (f : Nat) (b : List UInt8) : List UInt8 := if f = 0 then out ++ b else out
def erred (f er : Nat) : Nat := if f = 0 then er else f
theorem write_any (base g : Nat) (v : Value) (out : List UInt8) (f : Nat) (A : Option Addr) (m c : Nat) (ps : List ((Option Addr × Nat × Nat) × List UInt8)) (w : World) (hw : Wr w base g v out f)
    (hps : Rd w w.heap.size LP A m ps) (hA : 0 < m → ∀ ad, A = some ad → ¬ WS g v ad.block) (hparts : ∀ p ∈ ps, PartOk w w.heap.size g v p) (hm : m ≤ 2) (hroom : out.length + (ps.flatMap (·.2)).length ≤ 1000000000) :
    Calls Try.prog 68 #[.pointer (some ⟨g, 0, none⟩), .int .i64 0, .slice A m c] w fun e w' => e = .returned (.tuple #[]) ∧ ∃ v', Wr w' base g v' (put out f (ps.flatMap (·.2))) f ∧ Keep (WS g v) w w' ∧ Moved w v v' := by
  by_cases hf : f = 0
  · subst hf
    exact write_ok base g v out A m c ps w hw hps hA hparts hm hroom
  · refine (write_failed g _ v f 0 w hw.blk hf).mono ?_
    rintro e w' ⟨rfl, rfl⟩
    exact ⟨rfl, v, by unfold put; rw [if_neg hf]; exact hw, Keep.refl _ _, .inl rfl⟩
theorem write_err_any (base g : Nat) (v : Value) (out : List UInt8) (f er : Nat) (x : Value) (w : World) (hw : Wr w base g v out f) (he : er ≠ 0) :
    Calls Try.prog 68 #[.pointer (some ⟨g, 0, none⟩), .int .i64 (er : Nat), x] w fun e w' => e = .returned (.tuple #[]) ∧ ∃ v', Wr w' base g v' out (erred f er) ∧ Keep (WS g v) w w' ∧ Moved w v v' := by
  by_cases hf : f = 0
  · subst hf
    refine (write_error g x v er w hw.blk he).mono ?_
    rintro e w' ⟨rfl, rfl⟩
    have hk : Keep (fun k => k = g) w (w.setCell ⟨g, 1, none⟩ (.int .i64 (er : Nat))) := (Keep.refl (fun k => k = g) w).setCell (p := ⟨g, 1, none⟩) (fun _ => rfl) _
    refine ⟨rfl, v, ⟨by simpa [erred] using hw.blk.set_ 1 (.int .i64 (er : Nat)), hw.own.kept hk fun k hv e => hw.blk.own_ne hw.own (by decide) (by rw [hv, e]), hw.from_⟩, hk.mono fun i _ e => .inl e, .inl rfl⟩
  · refine (write_failed g _ v f er w hw.blk hf).mono ?_
    rintro e w' ⟨rfl, rfl⟩
    exact ⟨rfl, v, by unfold erred; rw [if_neg hf]; exact hw, Keep.refl _ _, .inl rfl⟩
/-- A part that lies in new memory. -/
theorem PartOk.new_ {w w' : World} {base g : Nat} {v : Value} {out l : List UInt8} {f : Nat} (hw : Wr w base g v out f) {A : Option Addr} {n c : Nat} (h : Rd w' w'.heap.size L8 A n l) (hb : ∀ ad, A = some ad → w.heap.size ≤ ad.block) : PartOk w' w'.heap.size g v ((A, n, c), l) :=
  ⟨h, fun _ ad had hx => by
    have := hb ad had
    rcases hx with hx | hx
    · have := hw.blk.lt; omega
    · have := (hw.own.lt _ hx).2; omega⟩
theorem WS.new_ {w : World} {base g : Nat} {v : Value} {out : List UInt8} {f : Nat} (hw : Wr w base g v out f) {k : Nat} (hk : w.heap.size ≤ k) : ¬ WS g v k := by
  rintro (hx | hx)
  · have := hw.blk.lt; omega
  · have := (hw.own.lt _ hx).2; omega
/-- What a method of a Writer does. -/
def WPost (base g : Nat) (v : Value) (w : World) (out : List UInt8) (f : Nat) (e : Ending) (w' : World) : Prop :=
  e = .returned (.tuple #[]) ∧ ∃ v', Wr w' base g v' out f ∧ Keep (WS g v) w w' ∧ Moved w v v'
theorem WPost.after {base g : Nat} {v : Value} {a w w' : World} {out : List UInt8} {f : Nat} {e : Ending} (hb : Below a.heap.size a w) (h : e = .returned (.tuple #[]) ∧ ∃ v', Wr w' base g v' out f ∧ Keep (WS g v) w w' ∧ Moved w v v') : WPost base g v a out f e w' := by
  obtain ⟨rfl, v', h1, h2, h3⟩ := h
  refine ⟨rfl, v', h1, (Keep.of_below (S := WS g v) hb).trans h2 (fun _ _ h => h), ?_⟩
  rcases h3 with h | h | ⟨k, hk, h⟩
  · exact .inl h
  · exact .inr (.inl h)
  · exact .inr (.inr ⟨k, Nat.le_trans hb.size hk, h⟩)
/-- A group of parts of one: what 'natural' returned, laid in a slice of its own. -/
theorem write_one (base g : Nat) (v : Value) (out b : List UInt8) (f : Nat) (A : Option Addr) (n c s : Nat) (w w1 : World) (e : TypeId) (hw : Wr w base g v out f) (hb : Below w.heap.size w w1) (hs : w1.heap.size = s)
    (hown : Own w1 w.heap.size 5 L8 (.slice A n c) b) (hroom : out.length + b.length ≤ 1000000000) :
    Calls Try.prog 68 #[.pointer (some ⟨g, 0, none⟩), .int .i64 0, .slice (some ⟨s, 0, none⟩) 1 1] (w1.alloc (.cells #[.slice A n c] e)) fun x w' => WPost base g v w (put out f b) f x w' := by
  subst hs
  have hb2 : Below w.heap.size w (w1.alloc (.cells #[.slice A n c] e)) := hb.alloc hb.size _
  have hw2 := hw.after hb2
  have hpo : PartOk (w1.alloc (.cells #[.slice A n c] e)) (w1.alloc (.cells #[.slice A n c] e)).heap.size g v ((A, n, c), b) :=
    PartOk.new_ hw ((hown.rd.alloc (Nat.le_refl _) _).more (by simp)) fun ad had => hown.from_ _ (by rw [had]; rfl)
  refine (write_any base g v out f _ 1 1 [((A, n, c), b)] _ hw2 ⟨rfl, fun _ => ⟨_, rfl, by simp, new_at rfl⟩⟩ (fun _ ad had => ?_) ?_ (by omega) (by simpa using hroom)).mono ?_
  · injection had with had
    subst had
    exact WS.new_ hw hb.size
  · intro p hp
    simp at hp
    subst hp
    exact hpo
  · intro x w' h
    have := WPost.after hb2 h
    simpa using this
set_option maxHeartbeats 400000 in
theorem cnumber_any (base g : Nat) (v : Value) (out : List UInt8) (f n : Nat) (w : World) (hw : Wr w base g v out f) (hn : n < 9223372036854775808) (hroom : out.length ≤ 999999000) :
    Calls Try.prog 53 #[.pointer (some ⟨g, 0, none⟩), .int .i64 (n : Nat)] w fun e w' => WPost base g v w (put out f (nat n)) f e w' := by
  have hl := nat_len n
  go_enter Try.func53, Try.ntmps53
  go_wp2_with fail
  refine (natural_any n (by omega) w).mono ?_
  rintro e w1 ⟨A, m, c, rfl, hown, hb⟩
  go_wp2_with fail
  refine (write_one base g v out (nat n) f A m c _ w w1 78 hw hb rfl hown (by omega)).mono ?_
  rintro e w2 h
  obtain rfl := h.1
  go_wp2
  refine bodyPost_end (results_none rfl _ _ _) rfl ?_
  exact h
end Go.Proofs.Ytbeemkamjachpaa
