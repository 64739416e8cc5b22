/- Encode, by a contract. -/
import Derived.Test.YtbeemkamjachpaaB9
import Derived.Test.YtbeemkamjachpaaCText
namespace Go.Proofs.Ytbeemkamjachpaa
open Go.RowKit Go.Shelf
set_option maxRecDepth 100000
attribute [local go_sem] Oper.semAt_some
def setBit (bs : List UInt8) (i : Nat) : List UInt8 := bs.set (i / 8) (bs.getD (i / 8) 0 ||| UInt8.ofNat (2 ^ (i % 8)))
def bitsL (f n : Nat) (pre : List Int) : List UInt8 := pre.foldl (fun bs x => setBit bs (x - (f : Int)).toNat) (List.replicate ((n + 7) / 8) 0)
theorem setBit_len (bs : List UInt8) (i : Nat) : (setBit bs i).length = bs.length := by simp [setBit]
theorem bitsL_snoc (f n : Nat) (pre : List Int) (k : Nat) : bitsL f n (pre ++ [(f : Int) + (k : Nat)]) = setBit (bitsL f n pre) k := by
  unfold bitsL
  rw [List.foldl_append]
  simp only [List.foldl_cons, List.foldl_nil]
  congr 1
  omega
theorem fold_len (f : Nat) (pre : List Int) : ∀ bs : List UInt8, (pre.foldl (fun bs x => setBit bs (x - (f : Int)).toNat) bs).length = bs.length := by
  induction pre with
  | nil => intro bs; rfl
  | cons x r ih => intro bs; rw [List.foldl_cons, ih, setBit_len]
theorem bitsL_len (f n : Nat) (pre : List Int) : (bitsL f n pre).length = (n + 7) / 8 := by unfold bitsL; rw [fold_len, List.length_replicate]
theorem or8 (x : UInt8) (r : Nat) (hr : r < 8) : bits .or .u8 (x.toNat : Int) (IntKind.u8.wrap (2 ^ r)) = ((x ||| UInt8.ofNat (2 ^ r)).toNat : Int) := by
  have hp : (2 : Nat) ^ r < 256 := Nat.lt_of_le_of_lt (Nat.pow_le_pow_right (by decide) (by omega : r ≤ 7)) (by decide)
  have e1 : IntKind.u8.wrap (2 ^ r) = ((2 ^ r : Nat) : Int) := by
    match r, hr with
    | 0, _ => rfl
    | 1, _ => rfl
    | 2, _ => rfl
    | 3, _ => rfl
    | 4, _ => rfl
    | 5, _ => rfl
    | 6, _ => rfl
    | 7, _ => rfl
  rw [e1, u8_or_nat x.toNat (2 ^ r) x.toNat_lt hp, UInt8.toNat_or, UInt8.toNat_ofNat', Nat.mod_eq_of_lt hp]
theorem Rd.of8 {w : World} {g B : Nat} {e : TypeId} {l : List UInt8} (h : Blk w g e (l.map b8).toArray) (hB : g < B) : Rd w B L8 (some ⟨g, 0, none⟩) l.length l :=
  ⟨rfl, fun _ => ⟨⟨g, 0, none⟩, rfl, hB, fun j u hu => by
    have e : (⟨g, 0, none⟩ : Addr).add j = ⟨g, j, none⟩ := by simp [Addr.add]; exact fun h => h.symm
    rw [L8_all] at hu
    rw [e, h.cell j, List.getElem?_toArray]; exact hu⟩⟩
theorem WPost.belowB {B base g : Nat} {v : Value} {w0 w w' : World} {out out' : List UInt8} {f f' : Nat} {e : Ending} (hb : Below B w0 w) (hw : Wr w base g v out f) (h : WPost base g v w out' f' e w') (hB : B ≤ base) : Below B w0 w' := by
  obtain ⟨_, v', _, hk, _⟩ := h
  refine hb.trans (hk.below (by have := hw.from_; have := hw.blk.lt; omega) fun i hi hx => ?_)
  rcases hx with rfl | hx
  · have := hw.from_; omega
  · have := (hw.own.lt _ hx).1; omega
def encB (f : Nat) (l : List UInt8) : List UInt8 := nat f ++ nat l.length ++ (nat ((l.length + 7) / 8) ++ bitsL f l.length (inL f l [1, 2] l.length))
set_option maxHeartbeats 2000000 in
theorem encode_any (b s f : Nat) (l : List UInt8) (W : World) (hm : MpAt W b s f l) : Calls Try.prog 34 #[.pointer (some ⟨b, 0, none⟩)] W fun e w' =>
    e = .returned (.string (str (encB f l))) ∧ Below W.heap.size W w' := by
  have hl := hm.n1
  obtain ⟨m, hm8⟩ : ∃ m, m = (l.length + 7) / 8 := ⟨_, rfl⟩
  have hq1 : ((l.length : Int) + 7) / 8 = (m : Nat) := by omega
  obtain ⟨cap, hc1, hc2, hblk⟩ := hm.blk
  have d1 : (W.alloc (.cells #[.pointer (some ⟨b, 0, none⟩)] 25)).cell? ⟨b, 1, none⟩ = some (.slice (some ⟨s, 0, none⟩) l.length cap) := (hblk.alloc _).cell 1
  have hmk := make_any (W.alloc (.cells #[.pointer (some ⟨b, 0, none⟩)] 25)) m (by omega)
  simp only [World.size_alloc] at hmk
  have HM8 := Lib.hid hm8
  clear hm8
  refine callsIn_wide (n := 3).1 ?_
  refine callsIn_of_wp_marks Try.func34 rfl trivial ?_ rfl
  simp only [Try.ntmps34, List.size_toArray, List.length_cons, List.length_nil, Nat.reduceAdd, Nat.reduceSub, Array.replicate_succ, Array.replicate_zero, List.push_toArray, List.append_toArray, List.nil_append, List.cons_append]
  gi_wp2_with (refine ⟨trivial, ?_⟩; gi_at_call 45; refine (callsIn_wide.2 (in_any _ _ _ _ _)).mono ?_; rintro e w' ⟨rfl, rfl⟩)
  have hI := InW.of (W := W) (w0 := (((W.alloc (.cells #[.pointer (some ⟨b, 0, none⟩)] 25)).alloc (.cells (Array.replicate m (b8 0)) 5)).alloc (.cells #[.slice (some ⟨W.heap.size + 1, 0, none⟩) m m] 78))) (N := W.heap.size) (k := 3) (b := b) [1, 2] ((((Below.refl _ W).alloc (Nat.le_refl _) _).alloc (by simp) _).alloc (by simp; omega) _) (by simp; omega) (by simp)
  have k0 := (((((Blk.new W 25 #[.pointer (some ⟨b, 0, none⟩)]).alloc (.cells (Array.replicate m (b8 0)) 5)).alloc (.cells #[.slice (some ⟨W.heap.size + 1, 0, none⟩) m m] 78)).alloc (.cells #[.int .i64 1, .int .i64 2] 3)).alloc (.cells #[.pointer (some ⟨b, 0, none⟩)] 25)).alloc (.cells #[.slice (some ⟨W.heap.size + 3, 0, none⟩) 2 2] 26)
  have k1 := ((((Blk.new (W.alloc (.cells #[.pointer (some ⟨b, 0, none⟩)] 25)) 5 (Array.replicate m (b8 0))).alloc (.cells #[.slice (some ⟨W.heap.size + 1, 0, none⟩) m m] 78)).alloc (.cells #[.int .i64 1, .int .i64 2] 3)).alloc (.cells #[.pointer (some ⟨b, 0, none⟩)] 25)).alloc (.cells #[.slice (some ⟨W.heap.size + 3, 0, none⟩) 2 2] 26)
  have k2 := (((Blk.new ((W.alloc (.cells #[.pointer (some ⟨b, 0, none⟩)] 25)).alloc (.cells (Array.replicate m (b8 0)) 5)) 78 #[.slice (some ⟨W.heap.size + 1, 0, none⟩) m m]).alloc (.cells #[.int .i64 1, .int .i64 2] 3)).alloc (.cells #[.pointer (some ⟨b, 0, none⟩)] 25)).alloc (.cells #[.slice (some ⟨W.heap.size + 3, 0, none⟩) 2 2] 26)
  simp only [World.size_alloc] at k1 k2
  change InW W _ _ b [1, 2] ((((((W.alloc (.cells #[.pointer (some ⟨b, 0, none⟩)] 25)).alloc (.cells (Array.replicate m (b8 0)) 5)).alloc (.cells #[.slice (some ⟨W.heap.size + 1, 0, none⟩) m m] 78)).alloc (.cells #[.int .i64 1, .int .i64 2] 3)).alloc (.cells #[.pointer (some ⟨b, 0, none⟩)] 25)).alloc (.cells #[.slice (some ⟨W.heap.size + 3, 0, none⟩) 2 2] 26)) at hI
  generalize ((((((W.alloc (.cells #[.pointer (some ⟨b, 0, none⟩)] 25)).alloc (.cells (Array.replicate m (b8 0)) 5)).alloc (.cells #[.slice (some ⟨W.heap.size + 1, 0, none⟩) m m] 78)).alloc (.cells #[.int .i64 1, .int .i64 2] 3)).alloc (.cells #[.pointer (some ⟨b, 0, none⟩)] 25)).alloc (.cells #[.slice (some ⟨W.heap.size + 3, 0, none⟩) 2 2] 26)) = w4 at hI k0 k1 k2 ⊢
  have hsz := hI.size
  have hlt := hm.lt
  have hrep : Array.replicate m (b8 0) = ((bitsL f l.length (vals ([] : List (Bk f l [1, 2])))).map b8).toArray := by
    show _ = ((List.replicate ((l.length + 7) / 8) 0).map b8).toArray
    rw [HM8.out, List.map_replicate]
    simp
  rw [hrep] at k1
  refine wpIn_rangeFunc_ownF rfl (by decide) (gf := 66) (lb := #[.pointer (some ⟨W.heap.size + 3 + 1, 0, none⟩), .pointer (some ⟨W.heap.size + 3 + 2, 0, none⟩)]) rfl trivial (enters_of Try.func66 (by kernel_rfl) rfl)
    (hI.stops hm rfl 2 (by decide) (by simp) (fun i => i = W.heap.size + 1 ∨ W.heap.size + 6 ≤ i) (fun i hi => by omega)) keep_t (fun W' l' o o' hl' _ _ _ => keep_put (N := W.heap.size + 6) (fun i hi => .inr hi) W' l' o' (by omega)) (Below.refl _ _) (fun _ => rfl)
    (fun pre w => (Blk w W.heap.size 25 #[.pointer (some ⟨b, 0, none⟩)] ∧ Blk w (W.heap.size + 1) 5 ((bitsL f l.length (vals pre)).map b8).toArray ∧ Blk w (W.heap.size + 1 + 1) 78 #[.slice (some ⟨W.heap.size + 1, 0, none⟩) m m]) ∧ Below W.heap.size W w)
    (fun _ _ _ => False)
    (OwnFrom.and (Own.from (fun s A B row hs hg hr => ⟨blk_kept hs.1 hg hr, blk_kept hs.2.1 hg hr, blk_kept hs.2.2 hg hr⟩) _) (ownFrom_below (Nat.le_refl _) (by omega)))
    (fun _ _ _ _ _ hs _ _ => hs)
    ⟨⟨k0, k1, k2⟩, hI.bel⟩
    (fun z => { tmps := #[.pointer (some ⟨b, 0, none⟩), .pointer (some ⟨W.heap.size, 0, none⟩), .string ⟨#[]⟩, .pointer (some ⟨W.heap.size + 1 + 1, 0, none⟩), .int .i64 z.1, undef, undef, undef, undef, .pointer (some ⟨b, 0, none⟩), .bool false, .pointer (some ⟨b, 0, none⟩), .pointer (some ⟨b, 0, none⟩), .pointer (some ⟨b, 1, none⟩), .slice (some ⟨s, 0, none⟩) l.length cap, .int .i64 (l.length : Nat), .int .i64 ((l.length : Nat) + 7), .int .i64 (m : Nat), .slice (some ⟨W.heap.size + 1, 0, none⟩) m m, .pointer (some ⟨b, 0, none⟩), .slice (some ⟨W.heap.size + 3, 0, none⟩) 2 2, .func (.func 66) #[] #[.pointer (some ⟨W.heap.size + 3 + 1, 0, none⟩), .pointer (some ⟨W.heap.size + 3 + 2, 0, none⟩)], .int .i64 z.1, undef, undef, undef, undef, undef, undef, undef, undef, undef, undef, undef, undef, undef, undef, undef, undef, undef, undef, undef, undef, undef, undef, undef, undef, undef, undef, undef, undef, undef, undef, undef, undef, undef, undef, undef, undef, undef, undef, undef, undef, undef], defers := [] }) ?assign ?body ?done ?stop
  case assign =>
    intro l' z w K hK
    gi_wp2
    simpa using hK
  case body =>
    rintro l' pre z w ⟨⟨c0, c1, c2⟩, hB⟩ hpl
    obtain ⟨k, hk, hin, hz⟩ := z.2
    have hv : vals (pre ++ [z]) = vals pre ++ [(f : Int) + (k : Nat)] := by rw [vals_snoc, hz]
    generalize (pre ++ [z] : List (Bk f l [1, 2])) = zs at hv ⊢
    rw [hz]
    have hbl := bitsL_len f l.length (vals pre)
    have hbs := bitsL_snoc f l.length (vals pre) k
    rw [← hv] at hbs
    rw [← HM8.out] at hbl
    generalize bitsL f l.length (vals pre) = bs at c1 hbl hbs
    have hm1 := hm.after hB
    obtain ⟨cap', hc1', hc2', hblk'⟩ := hm1.blk
    have d0 : w.cell? ⟨b, 0, none⟩ = some (.int .i64 (f : Nat)) := hblk'.cell 0
    have e0 : w.cell? ⟨W.heap.size, 0, none⟩ = some (.pointer (some ⟨b, 0, none⟩)) := c0.cell 0
    have e2 : w.cell? ⟨W.heap.size + 1 + 1, 0, none⟩ = some (.slice (some ⟨W.heap.size + 1, 0, none⟩) m m) := c2.cell 0
    have hk8 : k / 8 < m := by have := HM8.out; omega
    have e1 : w.cell? ⟨W.heap.size + 1, k / 8, none⟩ = some (b8 (bs.getD (k / 8) 0)) := by
      rw [c1.cell, List.getElem?_toArray, List.getElem?_map, List.getD_eq_getElem?_getD, List.getElem?_eq_getElem (by omega)]; rfl
    have hfz := c1.frozen (k / 8)
    have hf1 := hm.f1
    have ek : (f : Int) + (k : Nat) - (f : Nat) = (k : Nat) := by omega
    obtain ⟨x, hx⟩ : ∃ x, x = bs.getD (k / 8) 0 := ⟨_, rfl⟩
    obtain ⟨q, hq⟩ : ∃ q, q = k / 8 := ⟨_, rfl⟩
    obtain ⟨r, hr⟩ : ∃ r, r = k % 8 := ⟨_, rfl⟩
    rw [← hx] at e1
    rw [← hq] at e1 hk8 hfz
    have hq' : ((k : Nat) : Int) / 8 = (q : Nat) := by omega
    have hq2 : ((k : Nat) : Int).tdiv 8 = (q : Nat) := by rw [Int.tdiv_eq_ediv_of_nonneg (by omega)]; omega
    have hr' : ((k : Nat) : Int) % 8 = (r : Nat) := by omega
    have hr2 : ((k : Nat) : Int).tmod 8 = (r : Nat) := by rw [Int.tmod_eq_emod_of_nonneg (by omega)]; omega
    have hr8 : r < 8 := by omega
    have hwq : IntKind.i64.wrap ((q : Nat) : Int) = (q : Nat) := by rw [IntKind.wrap_i64]; omega
    have hwr : IntKind.i64.wrap ((r : Nat) : Int) = (r : Nat) := by rw [IntKind.wrap_i64]; omega
    have hset : setBit bs k = bs.set q (x ||| UInt8.ofNat (2 ^ r)) := by rw [hq, hr, hx]; rfl
    have hor := or8 x r hr8
    generalize x ||| UInt8.ofNat (2 ^ r) = y at hset hor
    rw [hset] at hbs
    have g1 := (c1.set_ q (b8 y)).drew
    rw [List.setIfInBounds_toArray, ← List.map_set, ← hbs] at g1
    have G1 := Lib.hid g1
    have G0 := Lib.hid (c0.far (p := ⟨W.heap.size + 1, q, none⟩) (by show W.heap.size ≠ W.heap.size + 1; omega) (b8 y)).drew
    have G2 := Lib.hid (c2.far (p := ⟨W.heap.size + 1, q, none⟩) (by show W.heap.size + 1 + 1 ≠ W.heap.size + 1; omega) (b8 y)).drew
    have GB := Lib.hid (show Below W.heap.size W (w.setCell ⟨W.heap.size + 1, q, none⟩ (b8 y)).drew from let h := hB.setCell (p := ⟨W.heap.size + 1, q, none⟩) (by simp) (b8 y); ⟨h.os, h.tape, h.output, h.size, h.block⟩)
    have GK := Lib.hid (((Keep.refl (fun i => i = W.heap.size + 1 ∨ W.heap.size + 6 ≤ i) w).setCell (p := ⟨W.heap.size + 1, q, none⟩) (fun _ => .inl rfl) (b8 y)).drew)
    have GO := Lib.hid (show KeepsOthers w (w.setCell ⟨W.heap.size + 1, q, none⟩ (b8 y)).drew from let h := KeepsOthers.setCell w ⟨W.heap.size + 1, q, none⟩ (b8 y); ⟨h.size, h.same⟩)
    clear g1 hset
    simp only [b8] at G0 G2 GB GK GO
    simp only [show b8 y = Value.int .u8 (y.toNat : Int) from rfl] at G1
    have HQ := Lib.hid hq; have HR := Lib.hid hr; have HX := Lib.hid hx; have HBS := Lib.hid hbs; have HB := Lib.hid hB; have C0 := Lib.hid c0; have C1 := Lib.hid c1; have C2 := Lib.hid c2; have HBL := Lib.hid hbl
    clear hq hr hx hbs hB c0 c1 c2 hbl hm hI k0 k1 k2 hblk hblk' hm1 hrep hmk hv hz hin hpl d1 hq1
    simp only [b8] at e1
    gi_wp2
    refine wpIn_region_round (by kernel_rfl) (by kernel_rfl) ?_
    refine wpAnyIn_take (i := 1) (v := ?_) rfl rfl (by kernel_rfl) (by kernel_rfl) (by kernel_rfl) (fun _ _ _ h => h) ⟨Or.inl ⟨by rfl, ?_⟩, fun _ => rfl⟩ ?_
    rotate_left 1
    · (intro w; go_simp; try with_reducible rfl)
    refine wpAnyIn_take (i := 2) (v := ?_) rfl rfl (by kernel_rfl) (by kernel_rfl) (by kernel_rfl) (fun _ _ _ h => h) ⟨Or.inl ⟨by rfl, ?_⟩, fun _ => rfl⟩ ?_
    rotate_left 1
    · (intro w; go_simp; try with_reducible rfl)
    refine wpAnyIn_take (i := 5) (v := ?_) rfl rfl (by kernel_rfl) (by kernel_rfl) (by kernel_rfl) (fun _ _ _ h => h) ⟨Or.inl ⟨by rfl, ?_⟩, fun _ => rfl⟩ ?_
    rotate_left 1
    · (intro w; go_simp; try with_reducible rfl)
    refine wpAnyIn_take (i := 6) (v := ?_) rfl rfl (by kernel_rfl) (by kernel_rfl) (by kernel_rfl) (fun _ _ _ h => h) ⟨Or.inl ⟨by rfl, ?_⟩, fun _ => rfl⟩ ?_
    rotate_left 1
    · (intro w; go_simp; try with_reducible rfl)
    refine wpAnyIn_take (i := 7) (v := ?_) rfl rfl (by kernel_rfl) (by kernel_rfl) (by kernel_rfl) (fun _ _ _ h => h) ⟨Or.inl ⟨by rfl, ?_⟩, fun _ => rfl⟩ ?_
    rotate_left 1
    · (intro w; go_simp; try with_reducible rfl)
    refine wpAnyIn_ready (rs := [0]) (by kernel_rfl) (by simp) ?_
    refine AllReadyIn.cons rfl (fun K hK => ?_) ?_
    · go_simp
      refine hK _ _ ?_
      clear hK K
      refine wpAnyIn_take (i := 3) (v := ?_) rfl rfl (by kernel_rfl) (by kernel_rfl) (by kernel_rfl) (fun _ _ _ h => h) ⟨Or.inl ⟨by rfl, ?_⟩, fun _ => rfl⟩ ?_
      rotate_left 1
      · (intro w; go_simp; try with_reducible rfl)
      refine wpAnyIn_ready (rs := [4]) (by kernel_rfl) (by simp) ?_
      refine AllReadyIn.cons rfl (fun K hK => ?_) ?_
      · go_simp
        refine hK _ _ ?_
        clear hK K
        refine wpAnyIn_take (i := 8) (v := ?_) rfl rfl (by kernel_rfl) (by kernel_rfl) (by kernel_rfl) (fun _ _ _ h => h) ⟨Or.inl ⟨by rfl, ?_⟩, fun _ => rfl⟩ ?_
        rotate_left 1
        · (intro w; go_simp; try with_reducible rfl)
        refine wpAnyIn_take (i := 9) (v := ?_) rfl rfl (by kernel_rfl) (by kernel_rfl) (by kernel_rfl) (fun _ _ _ h => h) ⟨Or.inl ⟨by rfl, ?_⟩, fun _ => rfl⟩ ?_
        rotate_left 1
        · (intro w; go_simp; try with_reducible rfl)
        refine wpAnyIn_ready (rs := [10]) (by kernel_rfl) (by simp) ?_
        refine AllReadyIn.cons rfl (fun K hK => ?_) ?_
        · go_simp
          refine hK _ _ ?_
          clear hK K
          refine wpAnyIn_done (by kernel_rfl) ?_ _
          gi_wp2
          exact ⟨GO.out, GK.out, ⟨G0.out, G1.out, G2.out⟩, GB.out⟩
        exact AllReadyIn.nil
      exact AllReadyIn.nil
    exact AllReadyIn.nil
  case done =>
    rintro D ys w hD hys ⟨⟨c0, c1, c2⟩, hB⟩ hK
    rw [hys] at c1
    have e0 : w.cell? ⟨W.heap.size, 0, none⟩ = some (.pointer (some ⟨b, 0, none⟩)) := c0.cell 0
    have e2 : w.cell? ⟨W.heap.size + 1 + 1, 0, none⟩ = some (.slice (some ⟨W.heap.size + 1, 0, none⟩) m m) := c2.cell 0
    have HB := Lib.hid hB; have C1 := Lib.hid c1; have C0 := Lib.hid c0; have C2 := Lib.hid c2; have HK := Lib.hid hK; have HM := Lib.hid hm
    clear hys c0 c1 c2 hB hI k0 k1 k2 hblk hrep hmk d1 hq1 hK hm
    have hbn := bitsL_len f l.length (inL f l [1, 2] l.length)
    rw [← HM8.out] at hbn
    have hn1 := nat_len f; have hn2 := nat_len l.length; have hn3 := nat_len m
    have hE : gives (put (put (put [] 0 (nat f)) 0 (nat l.length)) 0 (nat (bitsL f l.length (inL f l [1, 2] l.length)).length ++ bitsL f l.length (inL f l [1, 2] l.length))) 0 = encB f l := by
      rw [hbn, HM8.out]; simp [gives, put, encB]
    generalize bitsL f l.length (inL f l [1, 2] l.length) = bs at C1 hbn hE
    have HE := Lib.hid hE; have HBN := Lib.hid hbn; have HN1 := Lib.hid hn1; have HN2 := Lib.hid hn2; have HN3 := Lib.hid hn3; have HKK := HK
    clear hE hbn hn1 hn2 hn3
    gi_wp2_with fail
    refine ⟨trivial, (callsIn_wide.2 (cnew_any w)).mono ?_⟩
    rintro e w1 ⟨rfl, hw1, hb1⟩
    have M1 := (HM.out.after HB.out).after hb1
    obtain ⟨cp1, cq1, cr1, hbk1⟩ := M1.blk
    have f0_1 : w1.cell? ⟨b, 0, none⟩ = some (.int .i64 (f : Nat)) := hbk1.cell 0
    have f1_1 : w1.cell? ⟨b, 1, none⟩ = some (.slice (some ⟨s, 0, none⟩) l.length cp1) := hbk1.cell 1
    have e0_1 : w1.cell? ⟨W.heap.size, 0, none⟩ = some (.pointer (some ⟨b, 0, none⟩)) := (C0.out.after hb1).cell 0
    have e2_1 : w1.cell? ⟨W.heap.size + 1 + 1, 0, none⟩ = some (.slice (some ⟨W.heap.size + 1, 0, none⟩) m m) := (C2.out.after hb1).cell 0
    have B1 := Lib.hid hb1; have R1 := Lib.hid hw1
    clear M1 hbk1 hb1 hw1
    clear e0 e2
    gi_wp2_with fail
    refine ⟨trivial, (callsIn_wide.2 (cnumber_any _ _ _ _ _ f w1 R1.out (by have := HM.out.f1; omega) (by decide))).mono ?_⟩
    rintro e w2 h2
    have hb2 := WPost.belowB B1.out R1.out h2 (Nat.le_refl _)
    obtain ⟨rfl, v2, hw2, _, _⟩ := h2
    have M2 := (HM.out.after HB.out).after hb2
    obtain ⟨cp2, cq2, cr2, hbk2⟩ := M2.blk
    have f0_2 : w2.cell? ⟨b, 0, none⟩ = some (.int .i64 (f : Nat)) := hbk2.cell 0
    have f1_2 : w2.cell? ⟨b, 1, none⟩ = some (.slice (some ⟨s, 0, none⟩) l.length cp2) := hbk2.cell 1
    have e0_2 : w2.cell? ⟨W.heap.size, 0, none⟩ = some (.pointer (some ⟨b, 0, none⟩)) := (C0.out.after hb2).cell 0
    have e2_2 : w2.cell? ⟨W.heap.size + 1 + 1, 0, none⟩ = some (.slice (some ⟨W.heap.size + 1, 0, none⟩) m m) := (C2.out.after hb2).cell 0
    have B2 := Lib.hid hb2; have R2 := Lib.hid hw2
    clear M2 hbk2 hb2 hw2
    clear f0_1 f1_1 e0_1 e2_1 cq1 cr1
    gi_wp2_with fail
    refine ⟨trivial, (callsIn_wide.2 (cnumber_any _ _ _ _ _ l.length w2 R2.out (by have := HM.out.n1; omega) (by simp [put]; have := HN1.out; omega))).mono ?_⟩
    rintro e w3 h3
    have hb3 := WPost.belowB B2.out R2.out h3 (Nat.le_refl _)
    obtain ⟨rfl, v3, hw3, _, _⟩ := h3
    have M3 := (HM.out.after HB.out).after hb3
    obtain ⟨cp3, cq3, cr3, hbk3⟩ := M3.blk
    have f0_3 : w3.cell? ⟨b, 0, none⟩ = some (.int .i64 (f : Nat)) := hbk3.cell 0
    have f1_3 : w3.cell? ⟨b, 1, none⟩ = some (.slice (some ⟨s, 0, none⟩) l.length cp3) := hbk3.cell 1
    have e0_3 : w3.cell? ⟨W.heap.size, 0, none⟩ = some (.pointer (some ⟨b, 0, none⟩)) := (C0.out.after hb3).cell 0
    have e2_3 : w3.cell? ⟨W.heap.size + 1 + 1, 0, none⟩ = some (.slice (some ⟨W.heap.size + 1, 0, none⟩) m m) := (C2.out.after hb3).cell 0
    have B3 := Lib.hid hb3; have R3 := Lib.hid hw3
    clear M3 hbk3 hb3 hw3
    clear f0_2 f1_2 e0_2 e2_2 cq2 cr2
    have hrd : Rd w3 w3.heap.size L8 (some ⟨W.heap.size + 1, 0, none⟩) m bs := by
      have h := C1.out.after B3.out
      have := Rd.of8 h h.lt
      rw [HBN.out] at this
      exact this
    have hcv : (convert 78 9 (.slice (some ⟨W.heap.size + 1, 0, none⟩) m m)).run Try.prog w3 = .ok (.string (str bs)) w3 := run_conv8 Try.underlying78 Try.underlying5 Try.underlying9 hrd
    clear hrd
    gi_wp2_with fail
    refine ⟨trivial, (callsIn_wide.2 (text_any _ _ _ _ bs _ w3 R3.out (by rw [HBN.out]; have := HM8.out; have := HM.out.n1; omega) (by simp [put]; have := HN1.out; have := HN2.out; omega))).mono ?_⟩
    rintro e w4 h4
    have hb4 := WPost.belowB B3.out R3.out h4 (Nat.le_refl _)
    obtain ⟨rfl, v4, hw4, _, _⟩ := h4
    have B4 := Lib.hid hb4; have R4 := Lib.hid hw4
    clear hb4 hw4 hcv f0_3 f1_3 e0_3 e2_3 cq3 cr3
    gi_wp2_with fail
    refine ⟨trivial, (callsIn_wide.2 (bytes_any _ _ _ _ _ w4 R4.out (by simp [put]; have := HN1.out; have := HN2.out; have := HN3.out; rw [HBN.out]; have := HM8.out; have := HM.out.n1; omega))).mono ?_⟩
    rintro e w5 ⟨A5, n5, c5, rfl, hown, hb5⟩
    rw [HE.out] at hown
    have hcv : (convert 78 9 (.slice A5 n5 c5)).run Try.prog w5 = .ok (.string (str (encB f l))) w5 := run_conv8 Try.underlying78 Try.underlying5 Try.underlying9 hown.rd
    have HB5 := Lib.hid (B4.out.trans (hb5.mono B4.out.size))
    clear hb5 hown
    gi_wp2
    have hK5 : w5.heap[D]? = some (.deferred (some [])) := (HB5.out.block D (Array.getElem?_eq_some_iff.1 HK.out).1).trans HK.out
    refine ⟨by simp, .inl ⟨_, _, rfl, run_takeDeferred hK5, ?_⟩⟩
    exact ⟨_, results_tmp rfl _ _ _, rfl, (HB.out.trans (HB5.out.mono HB.out.size)).trans (belowK_b (w := W) (Nat.le_refl _) w5 D _ _ (by omega) hK5 rfl rfl)⟩
  case stop =>
    rintro D c pre W _ _ h _
    exact h.elim
end Go.Proofs.Ytbeemkamjachpaa
