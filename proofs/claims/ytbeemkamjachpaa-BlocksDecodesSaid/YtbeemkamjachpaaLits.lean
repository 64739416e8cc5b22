/- Map literals with constant integer keys, as the walk meets them: made at the heap's end, filled, looked into. Nothing of the program itself. -/
import Derived.Test.YtbeemkamjachpaaNums
import Derived.MapKept
import Derived.Carry
namespace Go.Proofs.Ytbeemkamjachpaa
open Go.RowKit
variable {P : Program} {t k e : TypeId} {q : IntKind} {W : World} {b : Nat} {es : Array MapEntry} {clock : Nat}
theorem setBlock_alloc (W : World) (o o' : Obj) : ({ W.alloc o with heap := (W.alloc o).heap.setIfInBounds W.heap.size o' } : World) = W.alloc o' := by
  have e : (W.heap.push o).setIfInBounds W.heap.size o' = W.heap.push o' := by apply Array.ext'; simp
  show ({ W with heap := (W.heap.push o).setIfInBounds W.heap.size o' } : World) = { W with heap := W.heap.push o' }
  rw [e]
theorem run_checkKey_int (hk : P.underlying k = some (.int q)) (em : Bool) (n : Nat) (x : Int) : (Instr.checkKey em (n + 1) k (.int q x)).run P W = .ok () W := by
  rw [Instr.checkKey]
  simp [run_underlying hk, Result.andThen]
theorem run_insert_new (ht : P.underlying t = some (.map k e)) (hk : P.underlying k = some (.int q)) (hb : b = W.heap.size) (x : Int) (v : Value) (hn : Instr.findNow (.int q) (.int q x) es.toList 0 = some none) :
    (Instr.mapUpdate t (.map (some b)) (.int q x) v).run P (W.alloc (.map es clock)) = .ok () (W.alloc (.map (es.push { key := .int q x, val := v, born := clock }) (clock + 1))) := by
  subst hb
  have h0 : (W.alloc (.map es clock)).heap[W.heap.size]? = some (.map es clock) := heap_alloc_new W _
  simp [Instr.mapUpdate, run_underlying ht, MapKept.run_getObj_map h0, run_checkKey_int hk _ 9999, Instr.findKey, run_underlying hk, hn, MapKept.run_setObj_map _ h0, Result.andThen]
  exact setBlock_alloc W _ _
theorem run_lookup_some (ht : P.underlying t = some (.map k e)) (hk : P.underlying k = some (.int q)) (hb : W.heap[b]? = some (.map es clock)) (x : Int) (c : Bool) (i : Nat) (v : Value) (hn : Instr.findNow (.int q) (.int q x) es.toList 0 = some (some (i, v))) :
    (Instr.lookup t (.map (some b)) (.int q x) c).run P W = .ok (if c then .tuple #[v, .bool true] else v) W := by
  simp [Instr.lookup, run_underlying ht, MapKept.run_getObj_map hb, run_checkKey_int hk _ 9999, Instr.findKey, run_underlying hk, hn, Result.andThen]
theorem run_lookup_none (ht : P.underlying t = some (.map k e)) (hk : P.underlying k = some (.int q)) (hb : W.heap[b]? = some (.map es clock)) (x : Int) (c : Bool) (z : Value) (hz : (zeroValue e).run P W = .ok z W) (hn : Instr.findNow (.int q) (.int q x) es.toList 0 = some none) :
    (Instr.lookup t (.map (some b)) (.int q x) c).run P W = .ok (if c then .tuple #[z, .bool false] else z) W := by
  simp [Instr.lookup, run_underlying ht, MapKept.run_getObj_map hb, run_checkKey_int hk _ 9999, Instr.findKey, run_underlying hk, hn, hz, Result.andThen]
end Go.Proofs.Ytbeemkamjachpaa
