/- Take, by contracts. -/
import Derived.Test.YtbeemkamjachpaaB7
namespace Go.Proofs.Ytbeemkamjachpaa
open Go.RowKit Go.Shelf
set_option maxRecDepth 100000
attribute [local go_sem] Oper.semAt_some
theorem blk_kept {W W' : World} {row : Option Nat} {g : Nat} {t : TypeId} {cs : Array Value} (h : Blk W g t cs) (hg : W.grownBy W' row) (hr : ∀ r, row = some r → ∃ o : Obj, W.heap[r]? = some o ∧ o.isCells = false) : Blk W' g t cs :=
  (grownBy_keeps_cells hg hr h rfl).trans h
theorem mp_kept {W W' : World} {row : Option Nat} {b s f : Nat} {l : List UInt8} (h : MpAt W b s f l) (hg : W.grownBy W' row) (hr : ∀ r, row = some r → ∃ o : Obj, W.heap[r]? = some o ∧ o.isCells = false) : MpAt W' b s f l := by
  obtain ⟨c, c1, c2, h1⟩ := h.blk
  obtain ⟨m, h2⟩ := h.st
  exact ⟨⟨c, c1, c2, blk_kept h1 hg hr⟩, ⟨m, blk_kept h2 hg hr⟩, h.f1, h.n1⟩
theorem MpAt.far {W : World} {b s f : Nat} {l : List UInt8} (h : MpAt W b s f l) {p : Addr} (hb : b ≠ p.block) (hs : s ≠ p.block) (u : Value) : MpAt (W.setCell p u) b s f l := by
  obtain ⟨c, c1, c2, h1⟩ := h.blk
  obtain ⟨m, h2⟩ := h.st
  exact ⟨⟨c, c1, c2, h1.far hb u⟩, ⟨m, h2.far hs u⟩, h.f1, h.n1⟩
theorem ownFrom_keep {β : Type} {B : Nat} {S : Nat → Prop} {W0 : World} (hB : W0.heap.size ≤ B) : OwnFrom B (fun (_ : β) W => Keep S W0 W) :=
  fun _ _ _ _ hs hg hr => hs.grown hg (fun k e hk => by have := (hr k e).1; omega)
theorem wpOpIn_round {F : Fence} {l n : Nat} {P : Program} {ops : Array Oper} {Q : Exit → Act → World → Prop} (hd : ∀ (i : Nat) (o : Oper), ops[i]? = some o → ∀ c, o.op ≠ .defer c) {i : Nat} {K : Act → World → Prop} {a : Act} {w : World}
    (h : wpOpIn F n P ops Q i K a w) : wpOpIn (F.inRound l) n P ops Q i K a w := by
  unfold wpOpIn at h ⊢
  cases ho : ops[i]? with
  | none => rw [ho] at h; exact h
  | some o =>
    rw [ho] at h
    have e : ∀ ρ, o.semAt (F.inRound l).round ρ = o.semAt F.round ρ := fun ρ => by rw [Oper.semAt_eq _ _ _ (hd i o ho), Oper.semAt_eq _ _ _ (hd i o ho)]
    dsimp only at h ⊢
    split
    · rename_i hw
      rw [if_pos hw] at h
      unfold Oper.wpIn at h ⊢
      rw [e]
      exact ⟨h.1, h.2⟩
    · rename_i hw
      rw [if_neg hw] at h
      exact h
theorem wpAnyIn_round {F : Fence} {l n : Nat} {P : Program} {md : Region.Mode} {ops : Array Oper} {Q : Exit → Act → World → Prop} (hd : ∀ (i : Nat) (o : Oper), ops[i]? = some o → ∀ c, o.op ≠ .defer c) :
    ∀ (fuel : Nat) (listed : Array Bool) (a : Act) (w : World), wpAnyIn F n P md ops Q fuel listed a w → wpAnyIn (F.inRound l) n P md ops Q fuel listed a w := by
  intro fuel
  induction fuel with
  | zero => intro listed a w h; exact h
  | succ fuel ih =>
    intro listed a w h
    exact ⟨h.1, fun i hi => wpOpIn_round hd (wpOpIn_mono (fun a w h => ih _ a w h) (h.2 i hi))⟩
/-- A region that draws its order, in a round, by the walk outside of it. -/
theorem wpIn_region_round {F : Fence} {l n id : Nat} {P : Program} {ops : Array Oper} {Q : Exit → Act → World → Prop} {a : Act} {w : World} (hm : P.follows .mixedOrders = true) (hd : ops.all (fun o => match o.op with | .defer _ => false | _ => true) = true)
    (h : wpAnyIn F n P .any ops Q ops.size (Array.replicate ops.size false) a w.drew) : (Code.region id ops true).wpIn (F.inRound l) n P Q a w := by
  refine wpIn_region_any hm (wpAnyIn_round ?_ _ _ _ _ h)
  intro i o ho c hc
  rw [Array.all_eq_true'] at hd
  have := hd o (Array.mem_of_getElem? ho)
  rw [hc] at this
  cases this
set_option maxHeartbeats 2000000 in
theorem take_raw (b s f : Nat) (l : List UInt8) (W : World) (hm : MpAt W b s f l) : Calls Try.prog 19 #[.pointer (some ⟨b, 0, none⟩)] W fun e w' =>
    (e = .returned (.tuple #[.int .i64 0, .int .i64 26]) ∧ inL f l [0] l.length = [] ∧ Below W.heap.size W w') ∨
    (∃ k, k < l.length ∧ (∃ j, inL f l [0] j = [(f : Int) + (k : Nat)]) ∧ e = .returned (.tuple #[.int .i64 ((f : Int) + (k : Nat)), .int .i64 0]) ∧ MpAt w' b s f (l.set k 2) ∧ Keep (fun i => i = s) W w') := by
  refine callsIn_wide (n := 3).1 ?_
  refine callsIn_of_wp_marks Try.func19 rfl trivial ?_ rfl
  simp only [Try.ntmps19, List.size_toArray, List.length_cons, List.length_nil, Nat.reduceAdd, Nat.reduceSub, Array.replicate_succ, Array.replicate_zero, List.push_toArray, List.append_toArray, List.nil_append, List.cons_append]
  gi_wp2_with (refine ⟨trivial, ?_⟩; gi_at_call 45; refine (callsIn_wide.2 (in_any _ _ _ _ _)).mono ?_; rintro e w' ⟨rfl, rfl⟩)
  have hI := InW.of (W := W) (w0 := ((W.alloc (.cells #[.pointer (some ⟨b, 0, none⟩)] 25)).alloc (.cells #[.int .i64 0] 3)).alloc (.cells #[.int .i64 0] 40)) (N := W.heap.size) (k := 3) (b := b) [0] ((((Below.refl _ W).alloc (Nat.le_refl _) _).alloc (by simp) _).alloc (by simp; omega) _) (by simp; omega) (by simp)
  have k0 := (((((Blk.new W 25 #[.pointer (some ⟨b, 0, none⟩)]).alloc (.cells #[.int .i64 0] 3)).alloc (.cells #[.int .i64 0] 40)).alloc (.cells #[.int .i64 0] 3)).alloc (.cells #[.pointer (some ⟨b, 0, none⟩)] 25)).alloc (.cells #[.slice (some ⟨W.heap.size + 3, 0, none⟩) 1 1] 26)
  have k1 := ((((Blk.new (W.alloc (.cells #[.pointer (some ⟨b, 0, none⟩)] 25)) 3 #[.int .i64 0]).alloc (.cells #[.int .i64 0] 40)).alloc (.cells #[.int .i64 0] 3)).alloc (.cells #[.pointer (some ⟨b, 0, none⟩)] 25)).alloc (.cells #[.slice (some ⟨W.heap.size + 3, 0, none⟩) 1 1] 26)
  have k2 := (((Blk.new ((W.alloc (.cells #[.pointer (some ⟨b, 0, none⟩)] 25)).alloc (.cells #[.int .i64 0] 3)) 40 #[.int .i64 0]).alloc (.cells #[.int .i64 0] 3)).alloc (.cells #[.pointer (some ⟨b, 0, none⟩)] 25)).alloc (.cells #[.slice (some ⟨W.heap.size + 3, 0, none⟩) 1 1] 26)
  simp only [World.size_alloc] at k1 k2
  change InW W _ _ b [0] ((((((W.alloc (.cells #[.pointer (some ⟨b, 0, none⟩)] 25)).alloc (.cells #[.int .i64 0] 3)).alloc (.cells #[.int .i64 0] 40)).alloc (.cells #[.int .i64 0] 3)).alloc (.cells #[.pointer (some ⟨b, 0, none⟩)] 25)).alloc (.cells #[.slice (some ⟨W.heap.size + 3, 0, none⟩) 1 1] 26)) at hI
  generalize (((((W.alloc (.cells #[.pointer (some ⟨b, 0, none⟩)] 25)).alloc (.cells #[.int .i64 0] 3)).alloc (.cells #[.int .i64 0] 40)).alloc (.cells #[.int .i64 0] 3)).alloc (.cells #[.pointer (some ⟨b, 0, none⟩)] 25)).alloc (.cells #[.slice (some ⟨W.heap.size + 3, 0, none⟩) 1 1] 26) = w4 at hI k0 k1 k2 ⊢
  have hsz := hI.size
  have hl := hm.n1
  have hlt := hm.lt
  refine wpIn_rangeFunc_ownF rfl (by decide) (gf := 66) (lb := #[.pointer (some ⟨W.heap.size + 3 + 1, 0, none⟩), .pointer (some ⟨W.heap.size + 3 + 2, 0, none⟩)]) rfl trivial (enters_of Try.func66 (by kernel_rfl) rfl)
    (hI.stops hm rfl 2 (by decide) (by simp) (fun i => W.heap.size + 6 ≤ i) (fun i hi => by omega)) keep_t (fun W' l' o o' hl' _ _ _ => keep_put (N := W.heap.size + 6) (fun i hi => hi) W' l' o' (by omega)) (Below.refl _ _) (fun _ => rfl)
    (fun pre w => (pre = [] ∧ Blk w W.heap.size 25 #[.pointer (some ⟨b, 0, none⟩)] ∧ Blk w (W.heap.size + 1) 3 #[.int .i64 0] ∧ Blk w (W.heap.size + 1 + 1) 40 #[.int .i64 0]) ∧ Below W.heap.size W w)
    (fun c pre w => (c = .ret ∧ ∃ k, k < l.length ∧ vals pre = [(f : Int) + (k : Nat)] ∧ Blk w (W.heap.size + 1) 3 #[.int .i64 ((f : Int) + (k : Nat))] ∧ Blk w (W.heap.size + 1 + 1) 40 #[.int .i64 0] ∧ MpAt w b s f (l.set k 2)) ∧ Keep (fun i => i = s) W w)
    (OwnFrom.and (Own.from (fun s A B row hs hg hr => ⟨hs.1, blk_kept hs.2.1 hg hr, blk_kept hs.2.2.1 hg hr, blk_kept hs.2.2.2 hg hr⟩) _) (ownFrom_below (Nat.le_refl _) (by omega)))
    (fun c => OwnFrom.and (Own.from (fun s A B row hs hg hr => by
      obtain ⟨h0, k, h1, h2, h3, h4, h5⟩ := hs
      exact ⟨h0, k, h1, h2, blk_kept h3 hg hr, blk_kept h4 hg hr, mp_kept h5 hg hr⟩) _) (ownFrom_keep (by omega)))
    ⟨⟨rfl, k0, k1, k2⟩, hI.bel⟩
    (fun z => { tmps := #[.pointer (some ⟨b, 0, none⟩), .pointer (some ⟨W.heap.size, 0, none⟩), .pointer (some ⟨W.heap.size + 1, 0, none⟩), .pointer (some ⟨W.heap.size + 1 + 1, 0, none⟩), .int .i64 z.1, .pointer (some ⟨b, 0, none⟩), .bool false, .pointer (some ⟨b, 0, none⟩), .slice (some ⟨W.heap.size + 3, 0, none⟩) 1 1, .func (.func 66) #[] #[.pointer (some ⟨W.heap.size + 3 + 1, 0, none⟩), .pointer (some ⟨W.heap.size + 3 + 2, 0, none⟩)], .int .i64 z.1, undef, undef, undef, undef, undef, undef, undef, undef, undef, undef, undef, undef], defers := [] }) ?assign ?body ?done ?stop
  case assign =>
    intro l' z w K hK
    gi_wp2
    simpa using hK
  case body =>
    rintro l' pre z w ⟨⟨rfl, c0, c1, c2⟩, hB⟩ hpl
    obtain ⟨k, hk, hin, hz⟩ := z.2
    have hv : vals ([] ++ [z]) = [(f : Int) + (k : Nat)] := by show [z.1] = _; rw [hz]
    generalize ([] ++ [z] : List (Bk f l [0])) = zs at hv ⊢
    rw [hz]
    have HV := Lib.hid hv
    have hwk : IntKind.i64.wrap ((k : Nat) : Int) = (k : Nat) := by rw [IntKind.wrap_i64]; omega
    have ek : (f : Int) + (k : Nat) - (f : Nat) = (k : Nat) := by omega
    have hm1 := hm.after hB
    have hKp : Keep (fun i => i = s) W w := Keep.of_below hB
    obtain ⟨cap, hc1, hc2, hblk⟩ := hm1.blk
    obtain ⟨ms, hms⟩ := hm1.st
    have hfz := hms.frozen k
    have hcs := hm1.cell hk
    have d0 : w.cell? ⟨b, 0, none⟩ = some (.int .i64 (f : Nat)) := hblk.cell 0
    have d1 : w.cell? ⟨b, 1, none⟩ = some (.slice (some ⟨s, 0, none⟩) l.length cap) := hblk.cell 1
    have e0 : w.cell? ⟨W.heap.size, 0, none⟩ = some (.pointer (some ⟨b, 0, none⟩)) := c0.cell 0
    have hf1 := hm.f1
    have hset : Hid (MpAt (w.setCell ⟨s, k, none⟩ (.int .u8 2)).drew b s f (l.set k 2)) := Lib.hid ((hm1.set hk 2).after (below_drew _))
    have hkp : Hid (Keep (fun i => i = s) W (w.setCell ⟨s, k, none⟩ (.int .u8 2)).drew) := Lib.hid ((hKp.setCell (p := ⟨s, k, none⟩) (fun _ => rfl) (b8 2)).drew)
    have g1 : Hid (Blk (w.setCell ⟨s, k, none⟩ (.int .u8 2)).drew (W.heap.size + 1) 3 #[.int .i64 0]) := Lib.hid (c1.far (p := ⟨s, k, none⟩) (by show W.heap.size + 1 ≠ s; omega) (b8 2)).drew
    have g2 : Hid (Blk (w.setCell ⟨s, k, none⟩ (.int .u8 2)).drew (W.heap.size + 1 + 1) 40 #[.int .i64 0]) := Lib.hid (c2.far (p := ⟨s, k, none⟩) (by show W.heap.size + 1 + 1 ≠ s; omega) (b8 2)).drew
    have hko : Hid (KeepsOthers w (w.setCell ⟨s, k, none⟩ (.int .u8 2)).drew) := Lib.hid (let h := KeepsOthers.setCell w ⟨s, k, none⟩ (b8 2); ⟨h.size, h.same⟩)
    clear hI k0 k1 k2 hm hB hm1 hKp hblk hms c0 c1 c2 hin hpl hz hv z
    generalize (l.getD k 0).toNat = q at hcs
    gi_wp2
    refine wpIn_region_round (by kernel_rfl) (by kernel_rfl) ?_
    refine wpAnyIn_take (i := 4) (v := ?_) rfl rfl (by kernel_rfl) (by kernel_rfl) (by kernel_rfl) (fun _ _ _ h => h) ⟨Or.inl ⟨by rfl, ?_⟩, fun _ => rfl⟩ ?_
    rotate_left 1
    · (intro w; go_simp; try with_reducible rfl)
    refine wpAnyIn_ready (rs := [0, 5]) (by kernel_rfl) (by simp) ?_
    refine AllReadyIn.cons rfl (fun K hK => ?_) ?_
    · go_simp
      refine hK _ _ ?_
      clear hK K
      refine wpAnyIn_take (i := 1) (v := ?_) rfl rfl (by kernel_rfl) (by kernel_rfl) (by kernel_rfl) (fun _ _ _ h => h) ⟨Or.inl ⟨by rfl, ?_⟩, fun _ => rfl⟩ ?_
      rotate_left 1
      · (intro w; go_simp; try with_reducible rfl)
      refine wpAnyIn_take (i := 2) (v := ?_) rfl rfl (by kernel_rfl) (by kernel_rfl) (by kernel_rfl) (fun _ _ _ h => h) ⟨Or.inl ⟨by rfl, ?_⟩, fun _ => rfl⟩ ?_
      rotate_left 1
      · (intro w; go_simp; try with_reducible rfl)
      refine wpAnyIn_ready (rs := [3, 5]) (by kernel_rfl) (by simp) ?_
      refine AllReadyIn.cons rfl (fun K hK => ?_) ?_
      · go_simp
        refine hK _ _ ?_
        clear hK K
        refine wpAnyIn_ready (rs := [5]) (by kernel_rfl) (by simp) ?_
        refine AllReadyIn.cons rfl (fun K hK => ?_) ?_
        · go_simp
          refine hK _ _ ?_
          clear hK K
          refine wpAnyIn_take (i := 6) (v := ?_) rfl rfl (by kernel_rfl) (by kernel_rfl) (by kernel_rfl) (fun _ _ _ h => h) ⟨Or.inl ⟨by rfl, ?_⟩, fun _ => rfl⟩ ?_
          rotate_left 1
          · (intro w; go_simp; try with_reducible rfl)
          refine wpAnyIn_take (i := 7) (v := ?_) rfl rfl (by kernel_rfl) (by kernel_rfl) (by kernel_rfl) (fun _ _ _ h => h) ⟨Or.inl ⟨by rfl, ?_⟩, fun _ => rfl⟩ ?_
          rotate_left 1
          · (intro w; go_simp; try with_reducible rfl)
          refine wpAnyIn_ready (rs := [8]) (by kernel_rfl) (by simp) ?_
          refine AllReadyIn.cons rfl (fun K hK => ?_) ?_
          · go_simp
            refine hK _ _ ?_
            clear hK K
            refine wpAnyIn_take (i := 9) (v := ?_) rfl rfl (by kernel_rfl) (by kernel_rfl) (by kernel_rfl) (fun _ _ _ h => h) ⟨Or.inl ⟨by rfl, ?_⟩, fun _ => rfl⟩ ?_
            rotate_left 1
            · (intro w; go_simp; try with_reducible rfl)
            refine wpAnyIn_take (i := 10) (v := ?_) rfl rfl (by kernel_rfl) (by kernel_rfl) (by kernel_rfl) (fun _ _ _ h => h) ⟨Or.inl ⟨by rfl, ?_⟩, fun _ => rfl⟩ ?_
            rotate_left 1
            · (intro w; go_simp; try with_reducible rfl)
            refine wpAnyIn_ready (rs := [11]) (by kernel_rfl) (by simp) ?_
            refine AllReadyIn.cons rfl (fun K hK => ?_) ?_
            · go_simp
              refine hK _ _ ?_
              clear hK K
              refine wpAnyIn_done (by kernel_rfl) ?_ _
              generalize (w.setCell ⟨s, k, none⟩ (.int .u8 2)).drew = w5 at hset hkp g1 g2 hko ⊢
              have f1 := g1.out.cell 0; have f1z := g1.out.frozen 0; have f2 := g2.out.cell 0; have f2z := g2.out.frozen 0
              gi_wp2
              exact ⟨hko.out.trans ((KeepsOthers.setCell _ _ _).trans (KeepsOthers.setCell _ _ _)), ⟨rfl, k, hk, HV.out, (g1.out.set_ 0 (.int .i64 ((f : Int) + (k : Nat)))).far (by show W.heap.size + 1 ≠ W.heap.size + 1 + 1; omega) _, (g2.out.far (p := ⟨W.heap.size + 1, 0, none⟩) (by show W.heap.size + 1 + 1 ≠ W.heap.size + 1; omega) _).set_ 0 (.int .i64 0), (hset.out.far (p := ⟨W.heap.size + 1, 0, none⟩) (by show b ≠ W.heap.size + 1; omega) (by show s ≠ W.heap.size + 1; omega) _).far (p := ⟨W.heap.size + 1 + 1, 0, none⟩) (by show b ≠ W.heap.size + 1 + 1; omega) (by show s ≠ W.heap.size + 1 + 1; omega) _⟩, (hkp.out.setCell (p := ⟨W.heap.size + 1, 0, none⟩) (fun h => absurd h (by show ¬ (W.heap.size + 1 < W.heap.size); omega)) _).setCell (p := ⟨W.heap.size + 1 + 1, 0, none⟩) (fun h => absurd h (by show ¬ (W.heap.size + 1 + 1 < W.heap.size); omega)) _⟩
            exact AllReadyIn.nil
          exact AllReadyIn.nil
        exact AllReadyIn.nil
      refine AllReadyIn.cons rfl (fun K hK => ?_) ?_
      · go_simp
        refine hK _ _ ?_
        clear hK K
        refine wpAnyIn_take (i := 6) (v := ?_) rfl rfl (by kernel_rfl) (by kernel_rfl) (by kernel_rfl) (fun _ _ _ h => h) ⟨Or.inl ⟨by rfl, ?_⟩, fun _ => rfl⟩ ?_
        rotate_left 1
        · (intro w; go_simp; try with_reducible rfl)
        refine wpAnyIn_take (i := 7) (v := ?_) rfl rfl (by kernel_rfl) (by kernel_rfl) (by kernel_rfl) (fun _ _ _ h => h) ⟨Or.inl ⟨by rfl, ?_⟩, fun _ => rfl⟩ ?_
        rotate_left 1
        · (intro w; go_simp; try with_reducible rfl)
        refine wpAnyIn_ready (rs := [3, 8]) (by kernel_rfl) (by simp) ?_
        refine AllReadyIn.cons rfl (fun K hK => ?_) ?_
        · go_simp
          refine hK _ _ ?_
          clear hK K
          refine wpAnyIn_ready (rs := [8]) (by kernel_rfl) (by simp) ?_
          refine AllReadyIn.cons rfl (fun K hK => ?_) ?_
          · go_simp
            refine hK _ _ ?_
            clear hK K
            refine wpAnyIn_take (i := 9) (v := ?_) rfl rfl (by kernel_rfl) (by kernel_rfl) (by kernel_rfl) (fun _ _ _ h => h) ⟨Or.inl ⟨by rfl, ?_⟩, fun _ => rfl⟩ ?_
            rotate_left 1
            · (intro w; go_simp; try with_reducible rfl)
            refine wpAnyIn_take (i := 10) (v := ?_) rfl rfl (by kernel_rfl) (by kernel_rfl) (by kernel_rfl) (fun _ _ _ h => h) ⟨Or.inl ⟨by rfl, ?_⟩, fun _ => rfl⟩ ?_
            rotate_left 1
            · (intro w; go_simp; try with_reducible rfl)
            refine wpAnyIn_ready (rs := [11]) (by kernel_rfl) (by simp) ?_
            refine AllReadyIn.cons rfl (fun K hK => ?_) ?_
            · go_simp
              refine hK _ _ ?_
              clear hK K
              refine wpAnyIn_done (by kernel_rfl) ?_ _
              generalize (w.setCell ⟨s, k, none⟩ (.int .u8 2)).drew = w5 at hset hkp g1 g2 hko ⊢
              have f1 := g1.out.cell 0; have f1z := g1.out.frozen 0; have f2 := g2.out.cell 0; have f2z := g2.out.frozen 0
              gi_wp2
              exact ⟨hko.out.trans ((KeepsOthers.setCell _ _ _).trans (KeepsOthers.setCell _ _ _)), ⟨rfl, k, hk, HV.out, (g1.out.set_ 0 (.int .i64 ((f : Int) + (k : Nat)))).far (by show W.heap.size + 1 ≠ W.heap.size + 1 + 1; omega) _, (g2.out.far (p := ⟨W.heap.size + 1, 0, none⟩) (by show W.heap.size + 1 + 1 ≠ W.heap.size + 1; omega) _).set_ 0 (.int .i64 0), (hset.out.far (p := ⟨W.heap.size + 1, 0, none⟩) (by show b ≠ W.heap.size + 1; omega) (by show s ≠ W.heap.size + 1; omega) _).far (p := ⟨W.heap.size + 1 + 1, 0, none⟩) (by show b ≠ W.heap.size + 1 + 1; omega) (by show s ≠ W.heap.size + 1 + 1; omega) _⟩, (hkp.out.setCell (p := ⟨W.heap.size + 1, 0, none⟩) (fun h => absurd h (by show ¬ (W.heap.size + 1 < W.heap.size); omega)) _).setCell (p := ⟨W.heap.size + 1 + 1, 0, none⟩) (fun h => absurd h (by show ¬ (W.heap.size + 1 + 1 < W.heap.size); omega)) _⟩
            exact AllReadyIn.nil
          exact AllReadyIn.nil
        refine AllReadyIn.cons rfl (fun K hK => ?_) ?_
        · go_simp
          refine hK _ _ ?_
          clear hK K
          refine wpAnyIn_take (i := 9) (v := ?_) rfl rfl (by kernel_rfl) (by kernel_rfl) (by kernel_rfl) (fun _ _ _ h => h) ⟨Or.inl ⟨by rfl, ?_⟩, fun _ => rfl⟩ ?_
          rotate_left 1
          · (intro w; go_simp; try with_reducible rfl)
          refine wpAnyIn_ready (rs := [3]) (by kernel_rfl) (by simp) ?_
          refine AllReadyIn.cons rfl (fun K hK => ?_) ?_
          · go_simp
            refine hK _ _ ?_
            clear hK K
            refine wpAnyIn_take (i := 10) (v := ?_) rfl rfl (by kernel_rfl) (by kernel_rfl) (by kernel_rfl) (fun _ _ _ h => h) ⟨Or.inl ⟨by rfl, ?_⟩, fun _ => rfl⟩ ?_
            rotate_left 1
            · (intro w; go_simp; try with_reducible rfl)
            refine wpAnyIn_ready (rs := [11]) (by kernel_rfl) (by simp) ?_
            refine AllReadyIn.cons rfl (fun K hK => ?_) ?_
            · go_simp
              refine hK _ _ ?_
              clear hK K
              refine wpAnyIn_done (by kernel_rfl) ?_ _
              generalize (w.setCell ⟨s, k, none⟩ (.int .u8 2)).drew = w5 at hset hkp g1 g2 hko ⊢
              have f1 := g1.out.cell 0; have f1z := g1.out.frozen 0; have f2 := g2.out.cell 0; have f2z := g2.out.frozen 0
              gi_wp2
              exact ⟨hko.out.trans ((KeepsOthers.setCell _ _ _).trans (KeepsOthers.setCell _ _ _)), ⟨rfl, k, hk, HV.out, (g1.out.set_ 0 (.int .i64 ((f : Int) + (k : Nat)))).far (by show W.heap.size + 1 ≠ W.heap.size + 1 + 1; omega) _, (g2.out.far (p := ⟨W.heap.size + 1, 0, none⟩) (by show W.heap.size + 1 + 1 ≠ W.heap.size + 1; omega) _).set_ 0 (.int .i64 0), (hset.out.far (p := ⟨W.heap.size + 1, 0, none⟩) (by show b ≠ W.heap.size + 1; omega) (by show s ≠ W.heap.size + 1; omega) _).far (p := ⟨W.heap.size + 1 + 1, 0, none⟩) (by show b ≠ W.heap.size + 1 + 1; omega) (by show s ≠ W.heap.size + 1 + 1; omega) _⟩, (hkp.out.setCell (p := ⟨W.heap.size + 1, 0, none⟩) (fun h => absurd h (by show ¬ (W.heap.size + 1 < W.heap.size); omega)) _).setCell (p := ⟨W.heap.size + 1 + 1, 0, none⟩) (fun h => absurd h (by show ¬ (W.heap.size + 1 + 1 < W.heap.size); omega)) _⟩
            exact AllReadyIn.nil
          exact AllReadyIn.nil
        exact AllReadyIn.nil
      exact AllReadyIn.nil
    refine AllReadyIn.cons rfl (fun K hK => ?_) ?_
    · go_simp
      refine hK _ _ ?_
      clear hK K
      refine wpAnyIn_take (i := 6) (v := ?_) rfl rfl (by kernel_rfl) (by kernel_rfl) (by kernel_rfl) (fun _ _ _ h => h) ⟨Or.inl ⟨by rfl, ?_⟩, fun _ => rfl⟩ ?_
      rotate_left 1
      · (intro w; go_simp; try with_reducible rfl)
      refine wpAnyIn_take (i := 7) (v := ?_) rfl rfl (by kernel_rfl) (by kernel_rfl) (by kernel_rfl) (fun _ _ _ h => h) ⟨Or.inl ⟨by rfl, ?_⟩, fun _ => rfl⟩ ?_
      rotate_left 1
      · (intro w; go_simp; try with_reducible rfl)
      refine wpAnyIn_ready (rs := [0, 8]) (by kernel_rfl) (by simp) ?_
      refine AllReadyIn.cons rfl (fun K hK => ?_) ?_
      · go_simp
        refine hK _ _ ?_
        clear hK K
        refine wpAnyIn_take (i := 1) (v := ?_) rfl rfl (by kernel_rfl) (by kernel_rfl) (by kernel_rfl) (fun _ _ _ h => h) ⟨Or.inl ⟨by rfl, ?_⟩, fun _ => rfl⟩ ?_
        rotate_left 1
        · (intro w; go_simp; try with_reducible rfl)
        refine wpAnyIn_take (i := 2) (v := ?_) rfl rfl (by kernel_rfl) (by kernel_rfl) (by kernel_rfl) (fun _ _ _ h => h) ⟨Or.inl ⟨by rfl, ?_⟩, fun _ => rfl⟩ ?_
        rotate_left 1
        · (intro w; go_simp; try with_reducible rfl)
        refine wpAnyIn_ready (rs := [3, 8]) (by kernel_rfl) (by simp) ?_
        refine AllReadyIn.cons rfl (fun K hK => ?_) ?_
        · go_simp
          refine hK _ _ ?_
          clear hK K
          refine wpAnyIn_ready (rs := [8]) (by kernel_rfl) (by simp) ?_
          refine AllReadyIn.cons rfl (fun K hK => ?_) ?_
          · go_simp
            refine hK _ _ ?_
            clear hK K
            refine wpAnyIn_take (i := 9) (v := ?_) rfl rfl (by kernel_rfl) (by kernel_rfl) (by kernel_rfl) (fun _ _ _ h => h) ⟨Or.inl ⟨by rfl, ?_⟩, fun _ => rfl⟩ ?_
            rotate_left 1
            · (intro w; go_simp; try with_reducible rfl)
            refine wpAnyIn_take (i := 10) (v := ?_) rfl rfl (by kernel_rfl) (by kernel_rfl) (by kernel_rfl) (fun _ _ _ h => h) ⟨Or.inl ⟨by rfl, ?_⟩, fun _ => rfl⟩ ?_
            rotate_left 1
            · (intro w; go_simp; try with_reducible rfl)
            refine wpAnyIn_ready (rs := [11]) (by kernel_rfl) (by simp) ?_
            refine AllReadyIn.cons rfl (fun K hK => ?_) ?_
            · go_simp
              refine hK _ _ ?_
              clear hK K
              refine wpAnyIn_done (by kernel_rfl) ?_ _
              generalize (w.setCell ⟨s, k, none⟩ (.int .u8 2)).drew = w5 at hset hkp g1 g2 hko ⊢
              have f1 := g1.out.cell 0; have f1z := g1.out.frozen 0; have f2 := g2.out.cell 0; have f2z := g2.out.frozen 0
              gi_wp2
              exact ⟨hko.out.trans ((KeepsOthers.setCell _ _ _).trans (KeepsOthers.setCell _ _ _)), ⟨rfl, k, hk, HV.out, (g1.out.set_ 0 (.int .i64 ((f : Int) + (k : Nat)))).far (by show W.heap.size + 1 ≠ W.heap.size + 1 + 1; omega) _, (g2.out.far (p := ⟨W.heap.size + 1, 0, none⟩) (by show W.heap.size + 1 + 1 ≠ W.heap.size + 1; omega) _).set_ 0 (.int .i64 0), (hset.out.far (p := ⟨W.heap.size + 1, 0, none⟩) (by show b ≠ W.heap.size + 1; omega) (by show s ≠ W.heap.size + 1; omega) _).far (p := ⟨W.heap.size + 1 + 1, 0, none⟩) (by show b ≠ W.heap.size + 1 + 1; omega) (by show s ≠ W.heap.size + 1 + 1; omega) _⟩, (hkp.out.setCell (p := ⟨W.heap.size + 1, 0, none⟩) (fun h => absurd h (by show ¬ (W.heap.size + 1 < W.heap.size); omega)) _).setCell (p := ⟨W.heap.size + 1 + 1, 0, none⟩) (fun h => absurd h (by show ¬ (W.heap.size + 1 + 1 < W.heap.size); omega)) _⟩
            exact AllReadyIn.nil
          exact AllReadyIn.nil
        refine AllReadyIn.cons rfl (fun K hK => ?_) ?_
        · go_simp
          refine hK _ _ ?_
          clear hK K
          refine wpAnyIn_take (i := 9) (v := ?_) rfl rfl (by kernel_rfl) (by kernel_rfl) (by kernel_rfl) (fun _ _ _ h => h) ⟨Or.inl ⟨by rfl, ?_⟩, fun _ => rfl⟩ ?_
          rotate_left 1
          · (intro w; go_simp; try with_reducible rfl)
          refine wpAnyIn_ready (rs := [3]) (by kernel_rfl) (by simp) ?_
          refine AllReadyIn.cons rfl (fun K hK => ?_) ?_
          · go_simp
            refine hK _ _ ?_
            clear hK K
            refine wpAnyIn_take (i := 10) (v := ?_) rfl rfl (by kernel_rfl) (by kernel_rfl) (by kernel_rfl) (fun _ _ _ h => h) ⟨Or.inl ⟨by rfl, ?_⟩, fun _ => rfl⟩ ?_
            rotate_left 1
            · (intro w; go_simp; try with_reducible rfl)
            refine wpAnyIn_ready (rs := [11]) (by kernel_rfl) (by simp) ?_
            refine AllReadyIn.cons rfl (fun K hK => ?_) ?_
            · go_simp
              refine hK _ _ ?_
              clear hK K
              refine wpAnyIn_done (by kernel_rfl) ?_ _
              generalize (w.setCell ⟨s, k, none⟩ (.int .u8 2)).drew = w5 at hset hkp g1 g2 hko ⊢
              have f1 := g1.out.cell 0; have f1z := g1.out.frozen 0; have f2 := g2.out.cell 0; have f2z := g2.out.frozen 0
              gi_wp2
              exact ⟨hko.out.trans ((KeepsOthers.setCell _ _ _).trans (KeepsOthers.setCell _ _ _)), ⟨rfl, k, hk, HV.out, (g1.out.set_ 0 (.int .i64 ((f : Int) + (k : Nat)))).far (by show W.heap.size + 1 ≠ W.heap.size + 1 + 1; omega) _, (g2.out.far (p := ⟨W.heap.size + 1, 0, none⟩) (by show W.heap.size + 1 + 1 ≠ W.heap.size + 1; omega) _).set_ 0 (.int .i64 0), (hset.out.far (p := ⟨W.heap.size + 1, 0, none⟩) (by show b ≠ W.heap.size + 1; omega) (by show s ≠ W.heap.size + 1; omega) _).far (p := ⟨W.heap.size + 1 + 1, 0, none⟩) (by show b ≠ W.heap.size + 1 + 1; omega) (by show s ≠ W.heap.size + 1 + 1; omega) _⟩, (hkp.out.setCell (p := ⟨W.heap.size + 1, 0, none⟩) (fun h => absurd h (by show ¬ (W.heap.size + 1 < W.heap.size); omega)) _).setCell (p := ⟨W.heap.size + 1 + 1, 0, none⟩) (fun h => absurd h (by show ¬ (W.heap.size + 1 + 1 < W.heap.size); omega)) _⟩
            exact AllReadyIn.nil
          exact AllReadyIn.nil
        exact AllReadyIn.nil
      refine AllReadyIn.cons rfl (fun K hK => ?_) ?_
      · go_simp
        refine hK _ _ ?_
        clear hK K
        refine wpAnyIn_take (i := 9) (v := ?_) rfl rfl (by kernel_rfl) (by kernel_rfl) (by kernel_rfl) (fun _ _ _ h => h) ⟨Or.inl ⟨by rfl, ?_⟩, fun _ => rfl⟩ ?_
        rotate_left 1
        · (intro w; go_simp; try with_reducible rfl)
        refine wpAnyIn_ready (rs := [0]) (by kernel_rfl) (by simp) ?_
        refine AllReadyIn.cons rfl (fun K hK => ?_) ?_
        · go_simp
          refine hK _ _ ?_
          clear hK K
          refine wpAnyIn_take (i := 1) (v := ?_) rfl rfl (by kernel_rfl) (by kernel_rfl) (by kernel_rfl) (fun _ _ _ h => h) ⟨Or.inl ⟨by rfl, ?_⟩, fun _ => rfl⟩ ?_
          rotate_left 1
          · (intro w; go_simp; try with_reducible rfl)
          refine wpAnyIn_take (i := 2) (v := ?_) rfl rfl (by kernel_rfl) (by kernel_rfl) (by kernel_rfl) (fun _ _ _ h => h) ⟨Or.inl ⟨by rfl, ?_⟩, fun _ => rfl⟩ ?_
          rotate_left 1
          · (intro w; go_simp; try with_reducible rfl)
          refine wpAnyIn_ready (rs := [3]) (by kernel_rfl) (by simp) ?_
          refine AllReadyIn.cons rfl (fun K hK => ?_) ?_
          · go_simp
            refine hK _ _ ?_
            clear hK K
            refine wpAnyIn_take (i := 10) (v := ?_) rfl rfl (by kernel_rfl) (by kernel_rfl) (by kernel_rfl) (fun _ _ _ h => h) ⟨Or.inl ⟨by rfl, ?_⟩, fun _ => rfl⟩ ?_
            rotate_left 1
            · (intro w; go_simp; try with_reducible rfl)
            refine wpAnyIn_ready (rs := [11]) (by kernel_rfl) (by simp) ?_
            refine AllReadyIn.cons rfl (fun K hK => ?_) ?_
            · go_simp
              refine hK _ _ ?_
              clear hK K
              refine wpAnyIn_done (by kernel_rfl) ?_ _
              generalize (w.setCell ⟨s, k, none⟩ (.int .u8 2)).drew = w5 at hset hkp g1 g2 hko ⊢
              have f1 := g1.out.cell 0; have f1z := g1.out.frozen 0; have f2 := g2.out.cell 0; have f2z := g2.out.frozen 0
              gi_wp2
              exact ⟨hko.out.trans ((KeepsOthers.setCell _ _ _).trans (KeepsOthers.setCell _ _ _)), ⟨rfl, k, hk, HV.out, (g1.out.set_ 0 (.int .i64 ((f : Int) + (k : Nat)))).far (by show W.heap.size + 1 ≠ W.heap.size + 1 + 1; omega) _, (g2.out.far (p := ⟨W.heap.size + 1, 0, none⟩) (by show W.heap.size + 1 + 1 ≠ W.heap.size + 1; omega) _).set_ 0 (.int .i64 0), (hset.out.far (p := ⟨W.heap.size + 1, 0, none⟩) (by show b ≠ W.heap.size + 1; omega) (by show s ≠ W.heap.size + 1; omega) _).far (p := ⟨W.heap.size + 1 + 1, 0, none⟩) (by show b ≠ W.heap.size + 1 + 1; omega) (by show s ≠ W.heap.size + 1 + 1; omega) _⟩, (hkp.out.setCell (p := ⟨W.heap.size + 1, 0, none⟩) (fun h => absurd h (by show ¬ (W.heap.size + 1 < W.heap.size); omega)) _).setCell (p := ⟨W.heap.size + 1 + 1, 0, none⟩) (fun h => absurd h (by show ¬ (W.heap.size + 1 + 1 < W.heap.size); omega)) _⟩
            exact AllReadyIn.nil
          exact AllReadyIn.nil
        exact AllReadyIn.nil
      exact AllReadyIn.nil
    exact AllReadyIn.nil
  case done =>
    rintro D ys w hD hys ⟨⟨rfl, c0, c1, c2⟩, hB⟩ hK
    have f1 := c1.cell 0; have f1z := c1.frozen 0; have f2 := c2.cell 0; have f2z := c2.frozen 0
    have HB := Lib.hid hB
    have HY := Lib.hid hys
    clear hB hys hI k0 k1 k2 c0
    gi_wp2
    have hK' := ((KeepsOthers.setCell w ⟨W.heap.size + 1, 0, none⟩ (.int .i64 0)).trans (KeepsOthers.setCell _ ⟨W.heap.size + 1 + 1, 0, none⟩ (.int .i64 26))).same D _ hK rfl
    refine ⟨by simp, .inl ⟨_, _, rfl, run_takeDeferred hK', ?_⟩⟩
    have d1 := blk_kept ((c1.set_ 0 (.int .i64 0)).far (p := ⟨W.heap.size + 1 + 1, 0, none⟩) (by show W.heap.size + 1 ≠ W.heap.size + 1 + 1; omega) (.int .i64 26)) (grownBy_putObj' _ D (.deferred none)) (fun r e => by cases e; exact ⟨_, hK', rfl⟩)
    have d2 := blk_kept ((c2.far (p := ⟨W.heap.size + 1, 0, none⟩) (by show W.heap.size + 1 + 1 ≠ W.heap.size + 1; omega) (.int .i64 0)).set_ 0 (.int .i64 26)) (grownBy_putObj' _ D (.deferred none)) (fun r e => by cases e; exact ⟨_, hK', rfl⟩)
    have e1 := d1.cell 0
    have e2 := d2.cell 0
    have hb7 := (((HB.out.setCell (p := ⟨W.heap.size + 1, 0, none⟩) (by simp) (.int .i64 0)).setCell (p := ⟨W.heap.size + 1 + 1, 0, none⟩) (by simp; omega) (.int .i64 26)).trans (belowK_b (w := W) (Nat.le_refl _) _ D _ (.deferred none) (by omega) hK' rfl rfl))
    clear d1 d2 f1 f1z f2 f2z c1 c2 hK
    generalize ((w.setCell ⟨W.heap.size + 1, 0, none⟩ (.int .i64 0)).setCell ⟨W.heap.size + 1 + 1, 0, none⟩ (.int .i64 26)).putObj D (.deferred none) = w7 at e1 e2 hb7 ⊢
    simp at e1 e2
    refine ⟨.tuple #[.int .i64 0, .int .i64 26], ?_, .inl ⟨rfl, HY.out.symm, hb7⟩⟩
    simp [results, Try.f19, go_sem, e1, e2]
  case stop =>
    rintro D c pre w hD hpre ⟨⟨rfl, k, hk, hv, c1, c2, h5⟩, h6⟩ hK
    obtain ⟨j, hj, hpj⟩ := hpre
    rw [hv] at hpj
    have d1 := blk_kept c1 (grownBy_putObj' _ D (.deferred none)) (fun r e => by cases e; exact ⟨_, hK, rfl⟩)
    have d2 := blk_kept c2 (grownBy_putObj' _ D (.deferred none)) (fun r e => by cases e; exact ⟨_, hK, rfl⟩)
    have H5 := Lib.hid (mp_kept h5 (grownBy_putObj' _ D (.deferred none)) (fun r e => by cases e; exact ⟨_, hK, rfl⟩))
    have H6 := Lib.hid (h6.grown (grownBy_putObj' _ D (.deferred none)) (fun r e h => by cases e; omega))
    have HV := Lib.hid hpj.symm
    have e1 := d1.cell 0
    have e2 := d2.cell 0
    clear hv h5 h6 hpj hI k0 k1 k2 d1 d2 c1 c2
    gi_wp2
    refine ⟨by simp, .inl ⟨_, _, rfl, run_takeDeferred hK, ?_⟩⟩
    clear hK
    generalize w.putObj D (.deferred none) = w7 at e1 e2 H5 H6 ⊢
    simp at e1 e2
    refine ⟨.tuple #[.int .i64 ((f : Int) + (k : Nat)), .int .i64 0], ?_, .inr ⟨k, hk, ⟨j, HV.out⟩, rfl, H5.out, H6.out⟩⟩
    simp [results, Try.f19, go_sem, e1, e2]
end Go.Proofs.Ytbeemkamjachpaa
