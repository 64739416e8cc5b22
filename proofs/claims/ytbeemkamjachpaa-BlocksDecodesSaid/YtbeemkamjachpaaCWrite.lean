/- The Writer's own step 'write': what it does to the Writer, and that all other memory stays. -/
import Derived.Test.YtbeemkamjachpaaCNat
import Derived.Tactics
namespace Go.Proofs.Ytbeemkamjachpaa
open Go.RowKit
set_option maxRecDepth 100000
/-- A Writer in block g: v holds the bytes written, f is the error. -/
structure Wr (w : World) (base g : Nat) (v : Value) (out : List UInt8) (f : Nat) : Prop where
  blk : Blk w g 107 #[v, .int .i64 (f : Nat)]
  own : Own w base 5 L8 v out
  from_ : base ≤ g
/-- The blocks of a Writer. -/
def WS (g : Nat) (v : Value) (k : Nat) : Prop := k = g ∨ v.ownBlock = some k
/-- Its bytes lie where they lay, or in new memory. -/
def Moved (w : World) (v v' : Value) : Prop := v'.ownBlock = v.ownBlock ∨ v'.ownBlock = none ∨ ∃ k, w.heap.size ≤ k ∧ v'.ownBlock = some k
theorem WS.sub {w : World} {g : Nat} {v v' : Value} (h : Moved w v v') : ∀ i, i < w.heap.size → WS g v' i → WS g v i := by
  intro i hi hx
  rcases hx with rfl | hx
  · exact .inl rfl
  · rcases h with h | h | ⟨k, hk, h⟩
    · exact .inr (by rw [← h]; exact hx)
    · rw [h] at hx; cases hx
    · rw [h] at hx; injection hx with hx; omega
theorem Moved.trans {a w : World} {v v1 v2 : Value} (h : Moved a v v1) (h' : Moved w v1 v2) (hs : a.heap.size ≤ w.heap.size) : Moved a v v2 := by
  rcases h' with h' | h' | ⟨k, hk, h'⟩
  · unfold Moved; rw [h']; exact h
  · exact .inr (.inl h')
  · exact .inr (.inr ⟨k, by omega, h'⟩)
theorem Wr.kept {w w' : World} {base g : Nat} {v : Value} {out : List UInt8} {f : Nat} {S : Nat → Prop} (h : Wr w base g v out f) (hk : Keep S w w') (hs : ∀ k, WS g v k → ¬ S k) : Wr w' base g v out f :=
  ⟨h.blk.kept hk (hs g (.inl rfl)), h.own.kept hk fun k hv => hs k (.inr hv), h.from_⟩
theorem Wr.after {w w' : World} {base g : Nat} {v : Value} {out : List UInt8} {f : Nat} (h : Wr w base g v out f) (hb : Below w.heap.size w w') : Wr w' base g v out f :=
  h.kept (S := fun _ => False) (Keep.of_below hb) fun _ _ hx => hx
/-- A part that is handed to write: its slice, and the bytes that it reads as. -/
def LP : Lay ((Option Addr × Nat × Nat) × List UInt8) := { size := 1, enc := fun p => [.slice p.1.1 p.1.2.1 p.1.2.2], pos := by decide, len := fun _ => rfl, one := fun a u hu => by simp at hu; subst hu; rfl }
/-- A part reads as its bytes, and is no memory of the Writer's. -/
def PartOk (w : World) (B g : Nat) (v : Value) (p : (Option Addr × Nat × Nat) × List UInt8) : Prop := Rd w B L8 p.1.1 p.1.2.1 p.2 ∧ (0 < p.1.2.1 → ∀ ad, p.1.1 = some ad → ¬ WS g v ad.block)
set_option maxHeartbeats 400000 in
theorem write_failed (g : Nat) (x : Value) (v : Value) (f : Nat) (e : Int) (w : World) (hb : Blk w g 107 #[v, .int .i64 (f : Nat)]) (hf : f ≠ 0) :
    Calls Try.prog 68 #[.pointer (some ⟨g, 0, none⟩), .int .i64 e, x] w fun e w' => e = .returned (.tuple #[]) ∧ w = w' := by
  have h1 : w.cell? ⟨g, 1, none⟩ = some (.int .i64 (f : Nat)) := hb.cell 1
  have h2 : ((f : Int) != 0) = true := by simp; omega
  clear hb hf
  go_enter Try.func68, Try.ntmps68
  go_wp2
  refine bodyPost_ret (results_none rfl _ _ _) rfl ?_
  exact ⟨rfl, rfl⟩
set_option maxHeartbeats 400000 in
theorem write_error (g : Nat) (x : Value) (v : Value) (er : Nat) (w : World) (hb : Blk w g 107 #[v, .int .i64 0]) (he : er ≠ 0) :
    Calls Try.prog 68 #[.pointer (some ⟨g, 0, none⟩), .int .i64 (er : Nat), x] w fun e w' => e = .returned (.tuple #[]) ∧ w' = w.setCell ⟨g, 1, none⟩ (.int .i64 (er : Nat)) := by
  have h1 : w.cell? ⟨g, 1, none⟩ = some (.int .i64 0) := hb.cell 1
  have h2 : ((er : Int) != 0) = true := by simp; omega
  have h3 := hb.frozen 1
  clear hb he
  go_enter Try.func68, Try.ntmps68
  go_wp2
  refine bodyPost_ret (results_none rfl _ _ _) rfl ?_
  exact ⟨rfl, rfl⟩
set_option maxHeartbeats 1000000 in
theorem write_ok (base g : Nat) (v : Value) (out : List UInt8) (A : Option Addr) (m c : Nat) (ps : List ((Option Addr × Nat × Nat) × List UInt8)) (w : World) (hw : Wr w base g v out 0)
    (hps : Rd w w.heap.size LP A m ps) (hA : 0 < m → ∀ ad, A = some ad → ¬ WS g v ad.block) (hparts : ∀ p ∈ ps, PartOk w w.heap.size g v p) (hm : m ≤ 2) (hroom : out.length + (ps.flatMap (·.2)).length ≤ 1000000000) :
    Calls Try.prog 68 #[.pointer (some ⟨g, 0, none⟩), .int .i64 0, .slice A m c] w fun e w' => e = .returned (.tuple #[]) ∧ ∃ v', Wr w' base g v' (out ++ ps.flatMap (·.2)) 0 ∧ Keep (WS g v) w w' ∧ Moved w v v' := by
  have h1 : w.cell? ⟨g, 1, none⟩ = some (.int .i64 0) := hw.blk.cell 1
  have h3 := hw.blk.frozen 1
  have hglt := hw.blk.lt
  have HW := Lib.hid hw; have HPS := Lib.hid hps; have HA := Lib.hid hA; have HP := Lib.hid hparts
  clear hw hps hA hparts
  go_enter Try.func68, Try.ntmps68
  go_wp2
  go_loopw [25] (fun i wr => ∃ (k : Nat) (v1 : Value), k ≤ m ∧ i = .int .i64 (k : Nat) ∧ Wr wr base g v1 (out ++ (ps.take k).flatMap (·.2)) 0 ∧ Keep (WS g v) w wr ∧ Moved w v v1) (fun i _ => m - (intOf i).toNat)
  case atStart =>
    have hw := HW.out
    refine ⟨0, v, by omega, rfl, ⟨?_, by simpa using hw.own.kept ((Keep.refl (fun k => k = g) w).setCell (fun _ => rfl) _) fun k hk e => hw.blk.own_ne hw.own (by decide) (by rw [hk, e]), hw.from_⟩, (Keep.refl _ _).setCell (fun _ => .inl rfl) _, .inl rfl⟩
    simpa using hw.blk.set_ 1 (.int .i64 0)
  case round =>
    obtain ⟨k, v1, hk, rfl, hwr, hkeep, hmv⟩ := hrel
    have hsz := hkeep.size
    by_cases hlt : k < m
    · obtain ⟨ad, x, rfl, hadb, hx, hc⟩ := HPS.out.at_ hlt
      have hsub := HA.out (by omega) ad rfl
      obtain ⟨⟨pa, pn, pc⟩, pl⟩ := x
      have hcell : wr.cell? (ad.add k) = some (.slice pa pn pc) := by
        have := hc 0 _ rfl
        simp only [LP, Nat.mul_one, Nat.add_zero] at this
        rw [← this]
        exact World.cell?_of_block (by rw [block_of_add]; exact hkeep.block _ hadb hsub)
      obtain ⟨hp1, hp2⟩ := HP.out _ (List.mem_of_getElem? hx)
      have hp1' : Rd wr w.heap.size L8 pa pn pl := hp1.kept hkeep (Nat.le_refl _) hp2
      have hc0 : wr.cell? ⟨g, 0, none⟩ = some v1 := hwr.blk.cell 0
      have hf0 := hwr.blk.frozen 0
      have htake : (ps.take (k + 1)).flatMap (·.2) = (ps.take k).flatMap (·.2) ++ pl := by
        rw [List.take_add_one, hx]; simp
      have hlen : ((ps.take (k + 1)).flatMap (·.2)).length ≤ (ps.flatMap (·.2)).length := by
        rw [← List.take_append_drop (k + 1) ps, List.flatMap_append, List.take_append_drop]
        simp
      rw [htake] at hlen
      have hlen' : (out ++ (ps.take k).flatMap (·.2)).length + pn ≤ 1000000000 := by
        have := hp1.len
        simp only [List.length_append] at hlen ⊢
        simp only at this
        omega
      have hnew : out ++ (ps.take (k + 1)).flatMap (·.2) = (out ++ (ps.take k).flatMap (·.2)) ++ pl := by rw [htake, List.append_assoc]
      generalize hcur : out ++ (ps.take k).flatMap (·.2) = cur at hwr hlen' hnew
      have HN := Lib.hid hnew
      have hbl : base ≤ wr.heap.size := by have := hwr.from_; omega
      clear hc hx htake hlen hp1 hp2 hcur hnew
      have HWR := Lib.hid hwr; clear hwr
      go_wp2_with (at_builtin; refine ap_any _ rfl _ _ El8 rfl base v1 cur rfl HWR.out.own w.heap.size pa pn pc pl rfl hp1' ?c1 ?c2 ?c3 ?_)
      case c1 => omega
      case c2 => omega
      case c3 => omega
      intro A' c' w' hown' hgr hat _ _
      have hnb : some g ≠ v1.ownBlock := HWR.out.blk.own_ne HWR.out.own (by decide)
      have hblk : Blk w' g 107 #[v1, .int .i64 ((0 : Nat) : Int)] := HWR.out.blk.grown hgr hnb
      have hfro := hblk.frozen 0
      have hcw : w'.cell? ⟨g, 0, none⟩ = some v1 := hblk.cell 0
      have hkeep' : Keep (WS g v) w w' := hkeep.grown hgr fun i hi hlt' => WS.sub hmv i hlt' (.inr hi)
      have hmv' : Moved w v (Value.slice A' (cur.length + pn) c') := by
        rcases hat with h | h
        · rw [Moved, h]; exact hmv
        · exact .inr (.inr ⟨_, hsz, h⟩)
      have hset : Blk (w'.setCell ⟨g, 0, none⟩ (.slice A' (cur.length + pn) c')) g 107 #[.slice A' (cur.length + pn) c', .int .i64 ((0 : Nat) : Int)] := by
        simpa using hblk.set_ 0 (.slice A' (cur.length + pn) c')
      have hne : (Value.slice A' (cur.length + pn) c').ownBlock ≠ some g := fun e => (hblk.own_ne hown' (by decide)) e.symm
      have hown2 : Own (w'.setCell ⟨g, 0, none⟩ (.slice A' (cur.length + pn) c')) base 5 L8 (.slice A' (cur.length + pn) c') (cur ++ pl) :=
        hown'.kept ((Keep.refl (fun k => k = g) w').setCell (fun _ => rfl) _) fun q hq e => hne (by rw [hq, e])
      have hwr2 : Wr (w'.setCell ⟨g, 0, none⟩ (.slice A' (cur.length + pn) c')) base g (.slice A' (cur.length + pn) c') (cur ++ pl) 0 := ⟨hset, hown2, HWR.out.from_⟩
      rw [← HN.out] at hwr2
      have HWR2 := Lib.hid hwr2
      have hk2 : Keep (WS g v) w (w'.setCell ⟨g, 0, none⟩ (.slice A' (cur.length + pn) c')) := hkeep'.setCell (fun _ => .inl rfl) _
      have HK2 := Lib.hid hk2; have HM2 := Lib.hid hmv'
      clear hown' hgr hat hnb hblk hkeep' hmv' hset hne hown2 hwr2 hk2
      go_wp2
      go_roundw
      case rel => exact ⟨k + 1, _, by omega, by go_num, HWR2.out, HK2.out, HM2.out⟩
      case measure => simp [intOf]; omega
    · obtain rfl : k = m := by omega
      have hall : ps.take k = ps := by have := HPS.out.len; rw [← this]; exact List.take_length
      rw [hall] at hwr
      clear hall
      go_wp2
      refine bodyPost_end (results_none rfl _ _ _) rfl ?_
      exact ⟨rfl, v1, hwr, hkeep, hmv⟩
end Go.Proofs.Ytbeemkamjachpaa
