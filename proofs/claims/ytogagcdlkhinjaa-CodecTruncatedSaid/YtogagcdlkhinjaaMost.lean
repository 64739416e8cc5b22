/- The laws' own limits that permit the values, by a contract. -/
import Derived.Test.YtogagcdlkhinjaaRound
namespace Go.Proofs.Ytogagcdlkhinjaa
open Go.RowKit
set_option maxRecDepth 100000
def mostV (v : V) : V := { v with most := if v.kind.toNat % 4 = 3 then (v.s.length : Int) else v.n }
theorem mostV_fits (v : V) : (mostV v).fits := by
  unfold V.fits mostV
  constructor
  · intro h; simp only at h ⊢; rw [if_neg (by omega)]
  · intro h; simp only at h ⊢; rw [if_pos h]
theorem mostV_ok (v : V) (h : v.Ok) (hs : v.s.length ≤ 200) : (mostV v).Ok := by
  refine ⟨h.n1, h.n2, ?_, ?_, h.s1⟩
  · show _ ≤ if _ then _ else _; split
    · omega
    · exact h.n1
  · show (if _ then _ else _) < _; split
    · omega
    · exact h.n2
set_option maxHeartbeats 1000000 in
theorem most_any (A : Option Addr) (n c : Nat) (l : List V) (w : World) (hr : Rd w w.heap.size LV A n l) (hn : n ≤ 40) (hs : ∀ v ∈ l, v.s.length ≤ 200) :
    Calls Try.prog 25 #[.slice A n c] w fun e w' => ∃ A' m c', e = .returned (.slice A' m c') ∧ Own w' w.heap.size 51 LV (.slice A' m c') (l.map mostV) ∧ Below w.heap.size w w' := by
  have HR := Lib.hid hr; have HS := Lib.hid hs
  clear hr hs
  go_enter Try.func25, Try.ntmps25
  go_wp2
  go_loopw [3, 4] (fun v i wr => ∃ k : Nat, k ≤ n ∧ i = .int .i64 (k : Nat) ∧ Own wr w.heap.size 51 LV v ((l.take k).map mostV) ∧ Below w.heap.size w wr) (fun _ i _ => n - (intOf i).toNat)
  case atStart => exact ⟨0, by omega, rfl, Own.nil_, Below.refl _ _⟩
  case round =>
    obtain ⟨k, hk, rfl, hown, hb⟩ := hrel
    have hsz := hb.size
    by_cases hlt : k < n
    · obtain ⟨b, o, x, rfl, hab, hx, c0, c1, c2, c3, c4⟩ := (HR.out.below hb).v hlt
      have hxs : x.s.length ≤ 200 := HS.out x (List.mem_of_getElem? hx)
      have hss : (str x.s).size = x.s.length := rfl
      have hlen : ((l.take k).map mostV).length = k := by have := HR.out.len; simp; omega
      have hnew : (l.take (k + 1)).map mostV = (l.take k).map mostV ++ [mostV x] := by rw [List.take_add_one, hx]; simp
      generalize (l.take k).map mostV = cur at hown hnew hlen
      have HN := Lib.hid hnew
      have hlen' : cur.length ≤ 40 := by omega
      have hy : ∀ W : World, ∀ j u, (LV.enc (mostV x))[j]? = some u → (W.alloc (.cells #[.int .u8 (x.kind.toNat : Int), .int .i64 x.n, .bool x.is, .string (str x.s), .int .i64 (mostV x).most] 51)).cell? ((⟨W.heap.size, 0, none⟩ : Addr).add j) = some u := fun W => new_at rfl
      have HY := Lib.hid hy
      clear hx hnew hlen hy
      by_cases h3 : x.kind.toNat % 4 = 3
      all_goals
        first
          | (have e0 : ((x.kind.toNat : Int) % 4 == 3) = true := by simp; omega)
          | (have e0 : ((x.kind.toNat : Int) % 4 == 3) = false := by simp; omega)
        first
          | (have hm : (mostV x).most = (x.s.length : Int) := by show (if _ then _ else _) = _; rw [if_pos h3])
          | (have hm : (mostV x).most = x.n := by show (if _ then _ else _) = _; rw [if_neg h3])
        have HY' := HY.out
        rw [hm] at HY'
        have HYY := Lib.hid HY'
        clear hm HY' h3
        go_wp2_with (at_builtin; refine ap_one _ rfl _ _ ElV rfl w.heap.size _ cur rfl ((hown.alloc _).alloc _) _ _ (mostV x) rfl ?_ ?_ ?_ ?_ ?_; (simpa using HYY.out (wr.alloc _)); omega; omega; (simp; omega); intro A' c' w' hown' hg _ _ _)
        have hb' := (hown.alloc _).alloc _ |>.belowGrown ((hb.alloc hsz _).alloc (by simp; omega) _) (by simp; omega) (Nat.le_refl _) hg
        rw [← HN.out] at hown'
        have HO := Lib.hid hown'
        clear hg hown hb hown' c0 c1 c2 c3 c4
        go_wp2
        go_roundw
        case rel => exact ⟨k + 1, by omega, by go_num, HO.out, hb'⟩
        case measure => simp [intOf]; omega
    · obtain rfl : k = n := by omega
      have he : l.take k = l := by have := HR.out.len; rw [← this]; exact List.take_length
      rw [he] at hown
      obtain ⟨A', n', c', rfl⟩ := hown.sl
      have HO := Lib.hid hown
      clear hown he
      go_wp2
      go_ret
      exact ⟨_, _, _, rfl, HO.out, hb⟩
end Go.Proofs.Ytogagcdlkhinjaa
