/- The law's own read: values read one after the other, by a contract. -/
import Derived.Test.YtogagcdlkhinjaaReaderM
import Derived.Test.YtogagcdlkhinjaaVals
namespace Go.Proofs.Ytogagcdlkhinjaa
open Go.RowKit
set_option maxRecDepth 100000
/-- One value read like another: the value, the offset and the error behind it. -/
def rone (b : List UInt8) (s : Nat × Nat) (v : V) : V × Nat × Nat :=
  match v.kind.toNat % 4 with
  | 0 => let r := stepR 0 s.1 s.2 (rNum v.most (b.drop s.1)); ({ kind := v.kind, n := (r.1 : Int), is := false, s := [], most := v.most }, r.2)
  | 1 => let r := stepR (0 : Int) s.1 s.2 (rSig (b.drop s.1)); ({ kind := v.kind, n := r.1, is := false, s := [], most := v.most }, r.2)
  | 2 => let r := stepR false s.1 s.2 (rFlag (b.drop s.1)); ({ kind := v.kind, n := 0, is := r.1, s := [], most := v.most }, r.2)
  | _ => let r := stepR [] s.1 s.2 (rText v.most (b.drop s.1)); ({ kind := v.kind, n := 0, is := false, s := r.1, most := v.most }, r.2)
/-- Values read one after the other. -/
def rstep (b : List UInt8) (acc : List V × Nat × Nat) (v : V) : List V × Nat × Nat := (acc.1 ++ [(rone b acc.2 v).1], (rone b acc.2 v).2)
def rall (b : List UInt8) (like : List V) : List V × Nat × Nat := like.foldl (rstep b) ([], 0, 0)
theorem rall_len (b : List UInt8) (l : List V) (acc : List V × Nat × Nat) : (l.foldl (rstep b) acc).1.length = acc.1.length + l.length := by
  induction l generalizing acc with
  | nil => simp
  | cons a r ih => rw [List.foldl_cons, ih]; simp [rstep]; omega
set_option maxHeartbeats 4000000 in
theorem readAll_any (g : Nat) (A : Option Addr) (n c : Nat) (b : List UInt8) (A2 : Option Addr) (n2 c2 : Nat) (like : List V) (w : World) (hs : RS w g A n c b 0 0) (hr : Rd w w.heap.size LV A2 n2 like) (hsep : 0 < n2 → ∀ ad, A2 = some ad → ad.block ≠ g) (hn : n2 ≤ 40) :
    Calls Try.prog 26 #[.pointer (some ⟨g, 0, none⟩), .slice A2 n2 c2] w fun e w' => ∃ A' m' c', e = .returned (.slice A' m' c') ∧ Own w' w.heap.size 51 LV (.slice A' m' c') (rall b like).1 ∧ RS w' g A n c b (rall b like).2.1 (rall b like).2.2 ∧ Keep (fun q => q = g) w w' := by
  have HS := Lib.hid hs; have HR := Lib.hid hr; have HP := Lib.hid hsep
  have hg := hs.blk.lt
  clear hs hr hsep
  go_enter Try.func26, Try.ntmps26
  go_wp2
  go_loopw [5, 6] (fun v i wr => ∃ (k : Nat), k ≤ n2 ∧ i = .int .i64 (k : Nat) ∧ Own wr w.heap.size 51 LV v (rall b (like.take k)).1 ∧ RS wr g A n c b (rall b (like.take k)).2.1 (rall b (like.take k)).2.2 ∧ Keep (fun q => q = g) w wr) (fun _ i _ => n2 - (intOf i).toNat)
  case atStart => exact ⟨0, by omega, rfl, Own.nil_, HS.out, Keep.refl _ _⟩
  case round =>
    obtain ⟨k, hk, rfl, hown, hrs, hkeep⟩ := hrel
    have hsz := hkeep.size
    by_cases hlt : k < n2
    · obtain ⟨q, o, x, rfl, hab, hx, c0, c1, c2', c3, c4⟩ := (HR.out.kept hkeep (Nat.le_refl _) HP.out).v hlt
      have hnew : rall b (like.take (k + 1)) = rstep b (rall b (like.take k)) x := by unfold rall; rw [List.take_add_one, hx]; simp
      have hvlen : (rall b (like.take k)).1.length ≤ k := by
        have := rall_len b (like.take k) ([], 0, 0)
        have h2 : (like.take k).length ≤ k := List.length_take_le _ _
        unfold rall; simp at this h2; omega
      generalize rall b (like.take k) = acc at hown hrs hnew hvlen
      obtain ⟨vs, at_, f⟩ := acc
      have HVL := Lib.hid (show vs.length ≤ k from by simpa using hvlen)
      have HN := Lib.hid hnew; have HO := Lib.hid hown; have HRS := Lib.hid hrs; have HK := Lib.hid hkeep
      clear hnew hx hown hrs hkeep
      have hq : q < wr.heap.size := by omega
      have d0 : ∀ O, (wr.alloc O).cell? ⟨q, o + k * 5, none⟩ = some (.int .u8 (x.kind.toNat : Int)) := fun O => (World.cell?_alloc_lt wr O _ hq).trans c0
      have d4 : ∀ O, (wr.alloc O).cell? ⟨q, o + k * 5 + 4, none⟩ = some (.int .i64 x.most) := fun O => (World.cell?_alloc_lt wr O _ hq).trans c4
      go_wp2
      go_region
      have hB2 : Below wr.heap.size wr (wr.alloc (.cells #[.int .u8 (x.kind.toNat : Int), .int .i64 0, .bool false, .string ⟨#[]⟩, .int .i64 x.most] 51)).drew := ((Below.refl _ _).alloc (Nat.le_refl _) _).drew
      have hb2 : Blk (wr.alloc (.cells #[.int .u8 (x.kind.toNat : Int), .int .i64 0, .bool false, .string ⟨#[]⟩, .int .i64 x.most] 51)).drew wr.heap.size 51 #[.int .u8 (x.kind.toNat : Int), .int .i64 0, .bool false, .string ⟨#[]⟩, .int .i64 x.most] := (Blk.new _ _ _).drew
      have hrs2 := HRS.out.after hB2
      have hown2 := HO.out.after hB2
      have hkp2 : Keep (fun y => y = g) w _ := HK.out.after hB2
      have w2f0 : (wr.alloc (.cells #[.int .u8 (x.kind.toNat : Int), .int .i64 0, .bool false, .string ⟨#[]⟩, .int .i64 x.most] 51)).drew.cell? ⟨wr.heap.size, 0, none⟩ = some (.int .u8 (x.kind.toNat : Int)) := hb2.cell 0
      have w2f4 : (wr.alloc (.cells #[.int .u8 (x.kind.toNat : Int), .int .i64 0, .bool false, .string ⟨#[]⟩, .int .i64 x.most] 51)).drew.cell? ⟨wr.heap.size, 4, none⟩ = some (.int .i64 x.most) := hb2.cell 4
      have s2 := hB2.size
      generalize (wr.alloc (.cells #[.int .u8 (x.kind.toNat : Int), .int .i64 0, .bool false, .string ⟨#[]⟩, .int .i64 x.most] 51)).drew = W2 at hB2 hb2 hrs2 hown2 hkp2 w2f0 w2f4 s2 ⊢
      have HB2 := Lib.hid hb2; have HRS2 := Lib.hid hrs2; have HO2 := Lib.hid hown2; have HK2 := Lib.hid hkp2
      clear hb2 hB2 hrs2 hown2 hkp2 c0 c1 c2' c3 c4 d0 d4
      have hlt4 : x.kind.toNat % 4 < 4 := Nat.mod_lt _ (by decide)
      rcases (show x.kind.toNat % 4 = 0 ∨ x.kind.toNat % 4 = 1 ∨ x.kind.toNat % 4 = 2 ∨ x.kind.toNat % 4 = 3 by omega) with h | h | h | h
      · have H4 := Lib.hid h
        have e0 : ((x.kind.toNat : Int) % 4 == 0) = true := by simp; omega
        clear h
        have hcall := rnumber_any g A n c b at_ f x.most W2 HRS2.out
        generalize hz : stepR 0 at_ f (rNum x.most (b.drop at_)) = z at hcall
        obtain ⟨z1, z2, z3⟩ := z
        have HZ := Lib.hid hz; have HC := Lib.hid hcall
        clear hz hcall
        go_wp2_with fail
        refine HC.out.mono ?_
        rintro e w3 ⟨rfl, hrs3, hk3⟩
        have hb3 := HB2.out.kept hk3 (fun h => by omega)
        have s3 : wr.heap.size < w3.heap.size := hb3.lt
        have e0' : w3.cell? ⟨wr.heap.size, 0, none⟩ = some (.int .u8 (x.kind.toNat : Int)) := hb3.cell 0
        have e1' : w3.cell? ⟨wr.heap.size, 1, none⟩ = some (.int .i64 0) := hb3.cell 1
        have e2' : w3.cell? ⟨wr.heap.size, 2, none⟩ = some (.bool false) := hb3.cell 2
        have e3' : w3.cell? ⟨wr.heap.size, 3, none⟩ = some (.string ⟨#[]⟩) := hb3.cell 3
        have e4' : w3.cell? ⟨wr.heap.size, 4, none⟩ = some (.int .i64 x.most) := hb3.cell 4
        have ef := hb3.frozen 1
        have hown3 : Own w3 w.heap.size 51 LV u5 vs := HO2.out.kept hk3 fun y hy h => by have := (HO2.out.lt y hy).1; omega
        have hkset : Keep (fun y => y = wr.heap.size) w3 (w3.setCell ⟨wr.heap.size, 1, none⟩ (.int .i64 (z1 : Nat))) := (Keep.refl (fun y => y = wr.heap.size) w3).setCell (p := ⟨wr.heap.size, 1, none⟩) (fun _ => rfl) _
        have hown4 : Own (w3.setCell ⟨wr.heap.size, 1, none⟩ (.int .i64 (z1 : Nat))) w.heap.size 51 LV u5 vs := hown3.kept hkset fun y hy h => by have := (HO.out.lt y hy).2; omega
        have hrs4 : RS (w3.setCell ⟨wr.heap.size, 1, none⟩ (.int .i64 (z1 : Nat))) g A n c b z2 z3 := hrs3.kept hkset (fun h => by omega) fun hn0 ad had h => by have := HRS.out.rd.lt hn0 ad had; omega
        have hkp4 : Keep (fun y => y = g) w (w3.setCell ⟨wr.heap.size, 1, none⟩ (.int .i64 (z1 : Nat))) := (HK2.out.trans hk3 fun _ _ h => h).trans hkset fun y hy h => by omega
        have s4 : (w3.setCell ⟨wr.heap.size, 1, none⟩ (.int .i64 (z1 : Nat))).heap.size = w3.heap.size := by simp [World.setCell]
        have hnew : rall b (like.take (k + 1)) = (vs ++ [{ kind := x.kind, n := (z1 : Int), is := false, s := [], most := x.most }], z2, z3) := by
          rw [HN.out]; unfold rstep rone; simp only [H4.out, HZ.out]
        have hy : ∀ W : World, ∀ j u, (LV.enc { kind := x.kind, n := (z1 : Int), is := false, s := [], most := x.most })[j]? = some u → (W.alloc (.cells #[.int .u8 (x.kind.toNat : Int), .int .i64 (z1 : Nat), .bool false, .string ⟨#[]⟩, .int .i64 x.most] 51)).cell? ((⟨W.heap.size, 0, none⟩ : Addr).add j) = some u := fun W => new_at rfl
        have hszw : w.heap.size ≤ w3.heap.size := by omega
        have HNEW := Lib.hid hnew; have HY := Lib.hid hy; have HO4 := Lib.hid hown4; have HR4 := Lib.hid hrs4; have HK4 := Lib.hid hkp4; have HS4 := Lib.hid s4
        clear hnew hy hown4 hrs4 hkp4 hown3 hrs3 hk3 hb3 hkset s4
        have hvl : vs.length ≤ 1000 := by have := HVL.out; omega
        go_wp2_with (at_builtin; refine ap_one _ rfl _ _ ElV rfl w.heap.size _ vs rfl (HO4.out.alloc _) _ _ { kind := x.kind, n := (z1 : Int), is := false, s := [], most := x.most } rfl ?c1 ?c2 ?c3 ?c4 ?_)
        case c1 => exact (by simpa [HS4.out] using HY.out (w3.setCell ⟨wr.heap.size, 1, none⟩ (.int .i64 (z1 : Nat))))
        case c2 => omega
        case c3 => omega
        case c4 => simp [HS4.out]; omega
        intro A' c' w' hown' hg' _ _ _
        have hrs' : RS w' g A n c b z2 z3 := by
          have h1 := HR4.out.after ((Below.refl _ _).alloc (Nat.le_refl _) (.cells #[.int .u8 (x.kind.toNat : Int), .int .i64 (z1 : Nat), .bool false, .string ⟨#[]⟩, .int .i64 x.most] 51))
          exact h1.kept (Keep.grown (Keep.refl (fun y => u5.ownBlock = some y) _) hg' fun y hy _ => hy) (fun h => by have := (HO4.out.lt _ h).1; omega) fun hn0 ad had h => by
            have h2 := (HO4.out.lt _ h).1
            have h3 := HS.out.sep hn0 ad had
            have h4 := HS.out.rd.lt hn0 ad had
            omega
        have hkp' : Keep (fun y => y = g) w w' := (HK4.out.alloc _).grown hg' fun y hy hlt => by have := (HO4.out.lt y hy).1; omega
        have HQ := Lib.hid (And.intro hown' (And.intro hrs' hkp'))
        clear hown' hg' hrs' hkp'
        go_wp2
        go_roundw
        case rel => exact ⟨k + 1, by omega, by go_num, by rw [HNEW.out]; exact HQ.out.1, by rw [HNEW.out]; exact HQ.out.2.1, HQ.out.2.2⟩
        case measure => simp [intOf]; omega
      · have H4 := Lib.hid h
        have e0 : ((x.kind.toNat : Int) % 4 == 0) = false := by simp; omega
        have e1 : ((x.kind.toNat : Int) % 4 == 1) = true := by simp; omega
        clear h
        have hcall := rsigned_any g A n c b at_ f W2 HRS2.out
        generalize hz : stepR (0 : Int) at_ f (rSig (b.drop at_)) = z at hcall
        obtain ⟨z1, z2, z3⟩ := z
        have HZ := Lib.hid hz; have HC := Lib.hid hcall
        clear hz hcall
        go_wp2_with fail
        refine HC.out.mono ?_
        rintro e w3 ⟨rfl, hrs3, hk3⟩
        have hb3 := HB2.out.kept hk3 (fun h => by omega)
        have s3 : wr.heap.size < w3.heap.size := hb3.lt
        have e0' : w3.cell? ⟨wr.heap.size, 0, none⟩ = some (.int .u8 (x.kind.toNat : Int)) := hb3.cell 0
        have e1' : w3.cell? ⟨wr.heap.size, 1, none⟩ = some (.int .i64 0) := hb3.cell 1
        have e2' : w3.cell? ⟨wr.heap.size, 2, none⟩ = some (.bool false) := hb3.cell 2
        have e3' : w3.cell? ⟨wr.heap.size, 3, none⟩ = some (.string ⟨#[]⟩) := hb3.cell 3
        have e4' : w3.cell? ⟨wr.heap.size, 4, none⟩ = some (.int .i64 x.most) := hb3.cell 4
        have ef := hb3.frozen 1
        have hown3 : Own w3 w.heap.size 51 LV u5 vs := HO2.out.kept hk3 fun y hy h => by have := (HO2.out.lt y hy).1; omega
        have hkset : Keep (fun y => y = wr.heap.size) w3 (w3.setCell ⟨wr.heap.size, 1, none⟩ (.int .i64 z1)) := (Keep.refl (fun y => y = wr.heap.size) w3).setCell (p := ⟨wr.heap.size, 1, none⟩) (fun _ => rfl) _
        have hown4 : Own (w3.setCell ⟨wr.heap.size, 1, none⟩ (.int .i64 z1)) w.heap.size 51 LV u5 vs := hown3.kept hkset fun y hy h => by have := (HO.out.lt y hy).2; omega
        have hrs4 : RS (w3.setCell ⟨wr.heap.size, 1, none⟩ (.int .i64 z1)) g A n c b z2 z3 := hrs3.kept hkset (fun h => by omega) fun hn0 ad had h => by have := HRS.out.rd.lt hn0 ad had; omega
        have hkp4 : Keep (fun y => y = g) w (w3.setCell ⟨wr.heap.size, 1, none⟩ (.int .i64 z1)) := (HK2.out.trans hk3 fun _ _ h => h).trans hkset fun y hy h => by omega
        have s4 : (w3.setCell ⟨wr.heap.size, 1, none⟩ (.int .i64 z1)).heap.size = w3.heap.size := by simp [World.setCell]
        have hnew : rall b (like.take (k + 1)) = (vs ++ [{ kind := x.kind, n := z1, is := false, s := [], most := x.most }], z2, z3) := by
          rw [HN.out]; unfold rstep rone; simp only [H4.out, HZ.out]
        have hy : ∀ W : World, ∀ j u, (LV.enc { kind := x.kind, n := z1, is := false, s := [], most := x.most })[j]? = some u → (W.alloc (.cells #[.int .u8 (x.kind.toNat : Int), .int .i64 z1, .bool false, .string ⟨#[]⟩, .int .i64 x.most] 51)).cell? ((⟨W.heap.size, 0, none⟩ : Addr).add j) = some u := fun W => new_at rfl
        have hszw : w.heap.size ≤ w3.heap.size := by omega
        have HNEW := Lib.hid hnew; have HY := Lib.hid hy; have HO4 := Lib.hid hown4; have HR4 := Lib.hid hrs4; have HK4 := Lib.hid hkp4; have HS4 := Lib.hid s4
        clear hnew hy hown4 hrs4 hkp4 hown3 hrs3 hk3 hb3 hkset s4
        have hvl : vs.length ≤ 1000 := by have := HVL.out; omega
        go_wp2_with (at_builtin; refine ap_one _ rfl _ _ ElV rfl w.heap.size _ vs rfl (HO4.out.alloc _) _ _ { kind := x.kind, n := z1, is := false, s := [], most := x.most } rfl ?c1 ?c2 ?c3 ?c4 ?_)
        case c1 => exact (by simpa [HS4.out] using HY.out (w3.setCell ⟨wr.heap.size, 1, none⟩ (.int .i64 z1)))
        case c2 => omega
        case c3 => omega
        case c4 => simp [HS4.out]; omega
        intro A' c' w' hown' hg' _ _ _
        have hrs' : RS w' g A n c b z2 z3 := by
          have h1 := HR4.out.after ((Below.refl _ _).alloc (Nat.le_refl _) (.cells #[.int .u8 (x.kind.toNat : Int), .int .i64 z1, .bool false, .string ⟨#[]⟩, .int .i64 x.most] 51))
          exact h1.kept (Keep.grown (Keep.refl (fun y => u5.ownBlock = some y) _) hg' fun y hy _ => hy) (fun h => by have := (HO4.out.lt _ h).1; omega) fun hn0 ad had h => by
            have h2 := (HO4.out.lt _ h).1
            have h3 := HS.out.sep hn0 ad had
            have h4 := HS.out.rd.lt hn0 ad had
            omega
        have hkp' : Keep (fun y => y = g) w w' := (HK4.out.alloc _).grown hg' fun y hy hlt => by have := (HO4.out.lt y hy).1; omega
        have HQ := Lib.hid (And.intro hown' (And.intro hrs' hkp'))
        clear hown' hg' hrs' hkp'
        go_wp2
        go_roundw
        case rel => exact ⟨k + 1, by omega, by go_num, by rw [HNEW.out]; exact HQ.out.1, by rw [HNEW.out]; exact HQ.out.2.1, HQ.out.2.2⟩
        case measure => simp [intOf]; omega
      · have H4 := Lib.hid h
        have e0 : ((x.kind.toNat : Int) % 4 == 0) = false := by simp; omega
        have e1 : ((x.kind.toNat : Int) % 4 == 1) = false := by simp; omega
        have e2 : ((x.kind.toNat : Int) % 4 == 2) = true := by simp; omega
        clear h
        have hcall := rflag_any g A n c b at_ f W2 HRS2.out
        generalize hz : stepR false at_ f (rFlag (b.drop at_)) = z at hcall
        obtain ⟨z1, z2, z3⟩ := z
        have HZ := Lib.hid hz; have HC := Lib.hid hcall
        clear hz hcall
        go_wp2_with fail
        refine HC.out.mono ?_
        rintro e w3 ⟨rfl, hrs3, hk3⟩
        have hb3 := HB2.out.kept hk3 (fun h => by omega)
        have s3 : wr.heap.size < w3.heap.size := hb3.lt
        have e0' : w3.cell? ⟨wr.heap.size, 0, none⟩ = some (.int .u8 (x.kind.toNat : Int)) := hb3.cell 0
        have e1' : w3.cell? ⟨wr.heap.size, 1, none⟩ = some (.int .i64 0) := hb3.cell 1
        have e2' : w3.cell? ⟨wr.heap.size, 2, none⟩ = some (.bool false) := hb3.cell 2
        have e3' : w3.cell? ⟨wr.heap.size, 3, none⟩ = some (.string ⟨#[]⟩) := hb3.cell 3
        have e4' : w3.cell? ⟨wr.heap.size, 4, none⟩ = some (.int .i64 x.most) := hb3.cell 4
        have ef := hb3.frozen 2
        have hown3 : Own w3 w.heap.size 51 LV u5 vs := HO2.out.kept hk3 fun y hy h => by have := (HO2.out.lt y hy).1; omega
        have hkset : Keep (fun y => y = wr.heap.size) w3 (w3.setCell ⟨wr.heap.size, 2, none⟩ (.bool z1)) := (Keep.refl (fun y => y = wr.heap.size) w3).setCell (p := ⟨wr.heap.size, 2, none⟩) (fun _ => rfl) _
        have hown4 : Own (w3.setCell ⟨wr.heap.size, 2, none⟩ (.bool z1)) w.heap.size 51 LV u5 vs := hown3.kept hkset fun y hy h => by have := (HO.out.lt y hy).2; omega
        have hrs4 : RS (w3.setCell ⟨wr.heap.size, 2, none⟩ (.bool z1)) g A n c b z2 z3 := hrs3.kept hkset (fun h => by omega) fun hn0 ad had h => by have := HRS.out.rd.lt hn0 ad had; omega
        have hkp4 : Keep (fun y => y = g) w (w3.setCell ⟨wr.heap.size, 2, none⟩ (.bool z1)) := (HK2.out.trans hk3 fun _ _ h => h).trans hkset fun y hy h => by omega
        have s4 : (w3.setCell ⟨wr.heap.size, 2, none⟩ (.bool z1)).heap.size = w3.heap.size := by simp [World.setCell]
        have hnew : rall b (like.take (k + 1)) = (vs ++ [{ kind := x.kind, n := 0, is := z1, s := [], most := x.most }], z2, z3) := by
          rw [HN.out]; unfold rstep rone; simp only [H4.out, HZ.out]
        have hy : ∀ W : World, ∀ j u, (LV.enc { kind := x.kind, n := 0, is := z1, s := [], most := x.most })[j]? = some u → (W.alloc (.cells #[.int .u8 (x.kind.toNat : Int), .int .i64 0, .bool z1, .string ⟨#[]⟩, .int .i64 x.most] 51)).cell? ((⟨W.heap.size, 0, none⟩ : Addr).add j) = some u := fun W => new_at rfl
        have hszw : w.heap.size ≤ w3.heap.size := by omega
        have HNEW := Lib.hid hnew; have HY := Lib.hid hy; have HO4 := Lib.hid hown4; have HR4 := Lib.hid hrs4; have HK4 := Lib.hid hkp4; have HS4 := Lib.hid s4
        clear hnew hy hown4 hrs4 hkp4 hown3 hrs3 hk3 hb3 hkset s4
        have hvl : vs.length ≤ 1000 := by have := HVL.out; omega
        go_wp2_with (at_builtin; refine ap_one _ rfl _ _ ElV rfl w.heap.size _ vs rfl (HO4.out.alloc _) _ _ { kind := x.kind, n := 0, is := z1, s := [], most := x.most } rfl ?c1 ?c2 ?c3 ?c4 ?_)
        case c1 => exact (by simpa [HS4.out] using HY.out (w3.setCell ⟨wr.heap.size, 2, none⟩ (.bool z1)))
        case c2 => omega
        case c3 => omega
        case c4 => simp [HS4.out]; omega
        intro A' c' w' hown' hg' _ _ _
        have hrs' : RS w' g A n c b z2 z3 := by
          have h1 := HR4.out.after ((Below.refl _ _).alloc (Nat.le_refl _) (.cells #[.int .u8 (x.kind.toNat : Int), .int .i64 0, .bool z1, .string ⟨#[]⟩, .int .i64 x.most] 51))
          exact h1.kept (Keep.grown (Keep.refl (fun y => u5.ownBlock = some y) _) hg' fun y hy _ => hy) (fun h => by have := (HO4.out.lt _ h).1; omega) fun hn0 ad had h => by
            have h2 := (HO4.out.lt _ h).1
            have h3 := HS.out.sep hn0 ad had
            have h4 := HS.out.rd.lt hn0 ad had
            omega
        have hkp' : Keep (fun y => y = g) w w' := (HK4.out.alloc _).grown hg' fun y hy hlt => by have := (HO4.out.lt y hy).1; omega
        have HQ := Lib.hid (And.intro hown' (And.intro hrs' hkp'))
        clear hown' hg' hrs' hkp'
        go_wp2
        go_roundw
        case rel => exact ⟨k + 1, by omega, by go_num, by rw [HNEW.out]; exact HQ.out.1, by rw [HNEW.out]; exact HQ.out.2.1, HQ.out.2.2⟩
        case measure => simp [intOf]; omega
      · have H4 := Lib.hid h
        have e0 : ((x.kind.toNat : Int) % 4 == 0) = false := by simp; omega
        have e1 : ((x.kind.toNat : Int) % 4 == 1) = false := by simp; omega
        have e2 : ((x.kind.toNat : Int) % 4 == 2) = false := by simp; omega
        clear h
        have hcall := rtext_any g A n c b at_ f x.most W2 HRS2.out
        generalize hz : stepR [] at_ f (rText x.most (b.drop at_)) = z at hcall
        obtain ⟨z1, z2, z3⟩ := z
        have HZ := Lib.hid hz; have HC := Lib.hid hcall
        clear hz hcall
        go_wp2_with fail
        refine HC.out.mono ?_
        rintro e w3 ⟨rfl, hrs3, hk3⟩
        have hb3 := HB2.out.kept hk3 (fun h => by omega)
        have s3 : wr.heap.size < w3.heap.size := hb3.lt
        have e0' : w3.cell? ⟨wr.heap.size, 0, none⟩ = some (.int .u8 (x.kind.toNat : Int)) := hb3.cell 0
        have e1' : w3.cell? ⟨wr.heap.size, 1, none⟩ = some (.int .i64 0) := hb3.cell 1
        have e2' : w3.cell? ⟨wr.heap.size, 2, none⟩ = some (.bool false) := hb3.cell 2
        have e3' : w3.cell? ⟨wr.heap.size, 3, none⟩ = some (.string ⟨#[]⟩) := hb3.cell 3
        have e4' : w3.cell? ⟨wr.heap.size, 4, none⟩ = some (.int .i64 x.most) := hb3.cell 4
        have ef := hb3.frozen 3
        have hown3 : Own w3 w.heap.size 51 LV u5 vs := HO2.out.kept hk3 fun y hy h => by have := (HO2.out.lt y hy).1; omega
        have hkset : Keep (fun y => y = wr.heap.size) w3 (w3.setCell ⟨wr.heap.size, 3, none⟩ (.string (str z1))) := (Keep.refl (fun y => y = wr.heap.size) w3).setCell (p := ⟨wr.heap.size, 3, none⟩) (fun _ => rfl) _
        have hown4 : Own (w3.setCell ⟨wr.heap.size, 3, none⟩ (.string (str z1))) w.heap.size 51 LV u5 vs := hown3.kept hkset fun y hy h => by have := (HO.out.lt y hy).2; omega
        have hrs4 : RS (w3.setCell ⟨wr.heap.size, 3, none⟩ (.string (str z1))) g A n c b z2 z3 := hrs3.kept hkset (fun h => by omega) fun hn0 ad had h => by have := HRS.out.rd.lt hn0 ad had; omega
        have hkp4 : Keep (fun y => y = g) w (w3.setCell ⟨wr.heap.size, 3, none⟩ (.string (str z1))) := (HK2.out.trans hk3 fun _ _ h => h).trans hkset fun y hy h => by omega
        have s4 : (w3.setCell ⟨wr.heap.size, 3, none⟩ (.string (str z1))).heap.size = w3.heap.size := by simp [World.setCell]
        have hnew : rall b (like.take (k + 1)) = (vs ++ [{ kind := x.kind, n := 0, is := false, s := z1, most := x.most }], z2, z3) := by
          rw [HN.out]; unfold rstep rone; simp only [H4.out, HZ.out]
        have hy : ∀ W : World, ∀ j u, (LV.enc { kind := x.kind, n := 0, is := false, s := z1, most := x.most })[j]? = some u → (W.alloc (.cells #[.int .u8 (x.kind.toNat : Int), .int .i64 0, .bool false, .string (str z1), .int .i64 x.most] 51)).cell? ((⟨W.heap.size, 0, none⟩ : Addr).add j) = some u := fun W => new_at rfl
        have hszw : w.heap.size ≤ w3.heap.size := by omega
        have HNEW := Lib.hid hnew; have HY := Lib.hid hy; have HO4 := Lib.hid hown4; have HR4 := Lib.hid hrs4; have HK4 := Lib.hid hkp4; have HS4 := Lib.hid s4
        clear hnew hy hown4 hrs4 hkp4 hown3 hrs3 hk3 hb3 hkset s4
        have hvl : vs.length ≤ 1000 := by have := HVL.out; omega
        go_wp2_with (at_builtin; refine ap_one _ rfl _ _ ElV rfl w.heap.size _ vs rfl (HO4.out.alloc _) _ _ { kind := x.kind, n := 0, is := false, s := z1, most := x.most } rfl ?c1 ?c2 ?c3 ?c4 ?_)
        case c1 => exact (by simpa [HS4.out] using HY.out (w3.setCell ⟨wr.heap.size, 3, none⟩ (.string (str z1))))
        case c2 => omega
        case c3 => omega
        case c4 => simp [HS4.out]; omega
        intro A' c' w' hown' hg' _ _ _
        have hrs' : RS w' g A n c b z2 z3 := by
          have h1 := HR4.out.after ((Below.refl _ _).alloc (Nat.le_refl _) (.cells #[.int .u8 (x.kind.toNat : Int), .int .i64 0, .bool false, .string (str z1), .int .i64 x.most] 51))
          exact h1.kept (Keep.grown (Keep.refl (fun y => u5.ownBlock = some y) _) hg' fun y hy _ => hy) (fun h => by have := (HO4.out.lt _ h).1; omega) fun hn0 ad had h => by
            have h2 := (HO4.out.lt _ h).1
            have h3 := HS.out.sep hn0 ad had
            have h4 := HS.out.rd.lt hn0 ad had
            omega
        have hkp' : Keep (fun y => y = g) w w' := (HK4.out.alloc _).grown hg' fun y hy hlt => by have := (HO4.out.lt y hy).1; omega
        have HQ := Lib.hid (And.intro hown' (And.intro hrs' hkp'))
        clear hown' hg' hrs' hkp'
        go_wp2
        go_roundw
        case rel => exact ⟨k + 1, by omega, by go_num, by rw [HNEW.out]; exact HQ.out.1, by rw [HNEW.out]; exact HQ.out.2.1, HQ.out.2.2⟩
        case measure => simp [intOf]; omega
    · obtain rfl : k = n2 := by omega
      have he : like.take k = like := by have := HR.out.len; rw [← this]; exact List.take_length
      rw [he] at hown hrs
      obtain ⟨A', n', c', rfl⟩ := hown.sl
      have HQ := Lib.hid (And.intro hown (And.intro hrs hkeep))
      clear hown hrs hkeep he
      go_wp2
      go_returns
      exact ⟨_, _, _, rfl, HQ.out⟩
end Go.Proofs.Ytogagcdlkhinjaa
