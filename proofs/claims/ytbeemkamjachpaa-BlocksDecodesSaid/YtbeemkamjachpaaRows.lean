/-
  No cell of these rows narrows 'for every input' (looked for: loops, veiled, ifaces, maps, wideKeys, modest, calm, conditions, laid).
  DERIVED. THE GIVEN ROWS OF THIS SEAT. 9 by the template 'for every input the law returns true; each argument reads behind the call as it read before'; 0 by the template 'total and deterministic' (their statements: YtbeemkamjachpaaTotals.lean).
  GIVEN WITH THE SEED: the statements are not yours to turn. If you find one false, say at which input.
  Laid BY PROGRAM, IN A SANDBOX (cutbox-rows.mjs): the forced cells as the released guide's own fill.sh prints them over the translation 00ff27fb7ba4762a… (all of the seat's roots in one cut). By AI agents, Wed Nov 11 2026. No macro, syntax, notation, axiom, sorry.
-/
import Derived.Test.YtbeemkamjachpaaChecked
import GoSem.Claim
import GoSem.ClaimJoined
import GoSem.ClaimMapViews
import Derived.JoinedTies
import Derived.KernelRfl
namespace Go.Proofs.Ytbeemkamjachpaa
/- THE CELL 'sum', in the pinned program and in every row, IS THE sha256 OF THE DUMP (.gsa) THAT YtbeemkamjachpaaProg.lean LOADS. Nothing in Lean hashes anything: it is a label: what it is worth is what the hold of that sum in a sandbox is worth. -/
noncomputable def Try.pinned : Pinned := { name := "ytbeemkamjachpaa", sum := "00ff27fb7ba4762ac76ff55c09259a47a23b4e9a633e76ff709602c227a3f282", checked := Try.checked }
namespace Rows
def none {H : Type} : Left H := { results := [], args := [] }

/-- 'replevinlaw12.BlocksPlays': WHATEVER THE INPUT: true; the input reads as it did. -/
def blocksPlaysSpec : ChangeSpec := { name := "blocksPlays", fn := fun _ => fun
  | [d1, d2, d3] => { results := [.lit (.bool true)], args := [d1, d2, d3] }
  | _ => none }
def blocksPlaysRow : OpenClaim := { program := "ytbeemkamjachpaa", sum := "00ff27fb7ba4762ac76ff55c09259a47a23b4e9a633e76ff709602c227a3f282", func := "replevin/replevinlaw12.BlocksPlays", spec := "blocksPlays", unfollowed := true, recurses := true, apart := false }
def BlocksPlaysSaid : Prop := blocksPlaysRow.holds Try.pinned (OpenSpec.ofChange blocksPlaysSpec)

/-- ITS FALSE NEIGHBOUR: 'it returns false'. Refute it at one input. -/
def blocksPlaysWrong : ChangeSpec := { name := "blocksPlays", fn := fun _ => fun
  | [d1, d2, d3] => { results := [.lit (.bool false)], args := [d1, d2, d3] }
  | _ => none }
def BlocksPlaysWrongFalsely : Prop := blocksPlaysRow.holds Try.pinned (OpenSpec.ofChange blocksPlaysWrong)

/-- 'replevinlaw12.BlocksSafe': WHATEVER THE INPUT: true; the input reads as it did. -/
def blocksSafeSpec : ChangeSpec := { name := "blocksSafe", fn := fun _ => fun
  | [d1, d2, d3] => { results := [.lit (.bool true)], args := [d1, d2, d3] }
  | _ => none }
def blocksSafeRow : OpenClaim := { program := "ytbeemkamjachpaa", sum := "00ff27fb7ba4762ac76ff55c09259a47a23b4e9a633e76ff709602c227a3f282", func := "replevin/replevinlaw12.BlocksSafe", spec := "blocksSafe", unfollowed := true, recurses := true, apart := false }
def BlocksSafeSaid : Prop := blocksSafeRow.holds Try.pinned (OpenSpec.ofChange blocksSafeSpec)

/-- ITS FALSE NEIGHBOUR: 'it returns false'. Refute it at one input. -/
def blocksSafeWrong : ChangeSpec := { name := "blocksSafe", fn := fun _ => fun
  | [d1, d2, d3] => { results := [.lit (.bool false)], args := [d1, d2, d3] }
  | _ => none }
def BlocksSafeWrongFalsely : Prop := blocksSafeRow.holds Try.pinned (OpenSpec.ofChange blocksSafeWrong)

/-- 'replevinlaw12.BlocksGreat': WHATEVER THE INPUT: true; the input reads as it did. -/
def blocksGreatSpec : ChangeSpec := { name := "blocksGreat", fn := fun _ => fun
  | [d] => { results := [.lit (.bool true)], args := [d] }
  | _ => none }
def blocksGreatRow : OpenClaim := { program := "ytbeemkamjachpaa", sum := "00ff27fb7ba4762ac76ff55c09259a47a23b4e9a633e76ff709602c227a3f282", func := "replevin/replevinlaw12.BlocksGreat", spec := "blocksGreat", unfollowed := true, recurses := true, apart := false }
def BlocksGreatSaid : Prop := blocksGreatRow.holds Try.pinned (OpenSpec.ofChange blocksGreatSpec)

/-- ITS FALSE NEIGHBOUR: 'it returns false'. Refute it at one input. -/
def blocksGreatWrong : ChangeSpec := { name := "blocksGreat", fn := fun _ => fun
  | [d] => { results := [.lit (.bool false)], args := [d] }
  | _ => none }
def BlocksGreatWrongFalsely : Prop := blocksGreatRow.holds Try.pinned (OpenSpec.ofChange blocksGreatWrong)

/-- 'replevinlaw12.BlocksReturns': WHATEVER THE INPUT: true; the input reads as it did. -/
def blocksReturnsSpec : ChangeSpec := { name := "blocksReturns", fn := fun _ => fun
  | [d1, d2, d3] => { results := [.lit (.bool true)], args := [d1, d2, d3] }
  | _ => none }
def blocksReturnsRow : OpenClaim := { program := "ytbeemkamjachpaa", sum := "00ff27fb7ba4762ac76ff55c09259a47a23b4e9a633e76ff709602c227a3f282", func := "replevin/replevinlaw12.BlocksReturns", spec := "blocksReturns", unfollowed := true, recurses := true, apart := false }
def BlocksReturnsSaid : Prop := blocksReturnsRow.holds Try.pinned (OpenSpec.ofChange blocksReturnsSpec)

/-- ITS FALSE NEIGHBOUR: 'it returns false'. Refute it at one input. -/
def blocksReturnsWrong : ChangeSpec := { name := "blocksReturns", fn := fun _ => fun
  | [d1, d2, d3] => { results := [.lit (.bool false)], args := [d1, d2, d3] }
  | _ => none }
def BlocksReturnsWrongFalsely : Prop := blocksReturnsRow.holds Try.pinned (OpenSpec.ofChange blocksReturnsWrong)

/-- 'replevinlaw12.BlocksNew': WHATEVER THE INPUT: true; the input reads as it did. -/
def blocksNewSpec : ChangeSpec := { name := "blocksNew", fn := fun _ => fun
  | [d1, d2, d3] => { results := [.lit (.bool true)], args := [d1, d2, d3] }
  | _ => none }
def blocksNewRow : OpenClaim := { program := "ytbeemkamjachpaa", sum := "00ff27fb7ba4762ac76ff55c09259a47a23b4e9a633e76ff709602c227a3f282", func := "replevin/replevinlaw12.BlocksNew", spec := "blocksNew", unfollowed := true, recurses := true, apart := false }
def BlocksNewSaid : Prop := blocksNewRow.holds Try.pinned (OpenSpec.ofChange blocksNewSpec)

/-- ITS FALSE NEIGHBOUR: 'it returns false'. Refute it at one input. -/
def blocksNewWrong : ChangeSpec := { name := "blocksNew", fn := fun _ => fun
  | [d1, d2, d3] => { results := [.lit (.bool false)], args := [d1, d2, d3] }
  | _ => none }
def BlocksNewWrongFalsely : Prop := blocksNewRow.holds Try.pinned (OpenSpec.ofChange blocksNewWrong)

/-- 'replevinlaw12.BlocksClones': WHATEVER THE INPUT: true; the input reads as it did. -/
def blocksClonesSpec : ChangeSpec := { name := "blocksClones", fn := fun _ => fun
  | [d1, d2, d3] => { results := [.lit (.bool true)], args := [d1, d2, d3] }
  | _ => none }
def blocksClonesRow : OpenClaim := { program := "ytbeemkamjachpaa", sum := "00ff27fb7ba4762ac76ff55c09259a47a23b4e9a633e76ff709602c227a3f282", func := "replevin/replevinlaw12.BlocksClones", spec := "blocksClones", unfollowed := true, recurses := true, apart := false }
def BlocksClonesSaid : Prop := blocksClonesRow.holds Try.pinned (OpenSpec.ofChange blocksClonesSpec)

/-- ITS FALSE NEIGHBOUR: 'it returns false'. Refute it at one input. -/
def blocksClonesWrong : ChangeSpec := { name := "blocksClones", fn := fun _ => fun
  | [d1, d2, d3] => { results := [.lit (.bool false)], args := [d1, d2, d3] }
  | _ => none }
def BlocksClonesWrongFalsely : Prop := blocksClonesRow.holds Try.pinned (OpenSpec.ofChange blocksClonesWrong)

/-- 'replevinlaw12.BlocksNil': WHATEVER THE INPUT: true; the input reads as it did. -/
def blocksNilSpec : ChangeSpec := { name := "blocksNil", fn := fun _ => fun
  | [d1, d2, d3] => { results := [.lit (.bool true)], args := [d1, d2, d3] }
  | _ => none }
def blocksNilRow : OpenClaim := { program := "ytbeemkamjachpaa", sum := "00ff27fb7ba4762ac76ff55c09259a47a23b4e9a633e76ff709602c227a3f282", func := "replevin/replevinlaw12.BlocksNil", spec := "blocksNil", unfollowed := true, recurses := true, apart := false }
def BlocksNilSaid : Prop := blocksNilRow.holds Try.pinned (OpenSpec.ofChange blocksNilSpec)

/-- ITS FALSE NEIGHBOUR: 'it returns false'. Refute it at one input. -/
def blocksNilWrong : ChangeSpec := { name := "blocksNil", fn := fun _ => fun
  | [d1, d2, d3] => { results := [.lit (.bool false)], args := [d1, d2, d3] }
  | _ => none }
def BlocksNilWrongFalsely : Prop := blocksNilRow.holds Try.pinned (OpenSpec.ofChange blocksNilWrong)

/-- 'replevinlaw12.BlocksDecodes': WHATEVER THE INPUT: true; the input reads as it did. -/
def blocksDecodesSpec : ChangeSpec := { name := "blocksDecodes", fn := fun _ => fun
  | [d] => { results := [.lit (.bool true)], args := [d] }
  | _ => none }
def blocksDecodesRow : OpenClaim := { program := "ytbeemkamjachpaa", sum := "00ff27fb7ba4762ac76ff55c09259a47a23b4e9a633e76ff709602c227a3f282", func := "replevin/replevinlaw12.BlocksDecodes", spec := "blocksDecodes", unfollowed := true, recurses := true, apart := false }
def BlocksDecodesSaid : Prop := blocksDecodesRow.holds Try.pinned (OpenSpec.ofChange blocksDecodesSpec)

/-- ITS FALSE NEIGHBOUR: 'it returns false'. Refute it at one input. -/
def blocksDecodesWrong : ChangeSpec := { name := "blocksDecodes", fn := fun _ => fun
  | [d] => { results := [.lit (.bool false)], args := [d] }
  | _ => none }
def BlocksDecodesWrongFalsely : Prop := blocksDecodesRow.holds Try.pinned (OpenSpec.ofChange blocksDecodesWrong)

/-- 'replevinlaw12.BlocksEncodes': WHATEVER THE INPUT: true; the input reads as it did. -/
def blocksEncodesSpec : ChangeSpec := { name := "blocksEncodes", fn := fun _ => fun
  | [d1, d2, d3] => { results := [.lit (.bool true)], args := [d1, d2, d3] }
  | _ => none }
def blocksEncodesRow : OpenClaim := { program := "ytbeemkamjachpaa", sum := "00ff27fb7ba4762ac76ff55c09259a47a23b4e9a633e76ff709602c227a3f282", func := "replevin/replevinlaw12.BlocksEncodes", spec := "blocksEncodes", unfollowed := true, recurses := true, apart := false }
def BlocksEncodesSaid : Prop := blocksEncodesRow.holds Try.pinned (OpenSpec.ofChange blocksEncodesSpec)

/-- ITS FALSE NEIGHBOUR: 'it returns false'. Refute it at one input. -/
def blocksEncodesWrong : ChangeSpec := { name := "blocksEncodes", fn := fun _ => fun
  | [d1, d2, d3] => { results := [.lit (.bool false)], args := [d1, d2, d3] }
  | _ => none }
def BlocksEncodesWrongFalsely : Prop := blocksEncodesRow.holds Try.pinned (OpenSpec.ofChange blocksEncodesWrong)

/- THE SECOND FORM. 'bulk': how many values and letters a reading holds, each counted each time it is reached (what is shared counts as often as it is met; a slice's spare places count too). A statement '..UptoSaid' is the law's where the arguments, and the package variables that the reading takes, are together of bulk at most 1048576: NARROWER than '..Said'. Prove '..Said' where nothing that the law and all that it calls make is longer than what came in: it says more and counts as full. Else prove '..UptoSaid'. A law counts once. -/
mutual
def uptoBulk {H : Type} : DataW H → Nat
  | .lit (.string bytes) => bytes.length + 1
  | .lit _ => 1
  | .nil => 1
  | .ptr d => uptoBulk d + 1
  | .slice elems spare => uptoBulkAll elems + uptoBulkAll spare + 1
  | .agg parts => uptoBulkAll parts + 1
  | .iface _ d => uptoBulk d + 1
  | .map entries => uptoBulkEntries entries + 1
  | .held _ => 1
def uptoBulkAll {H : Type} : List (DataW H) → Nat
  | [] => 0
  | d :: r => uptoBulk d + uptoBulkAll r
def uptoBulkEntries {H : Type} : List (Lit × DataW H) → Nat
  | [] => 0
  | x :: r => uptoBulkEntry x + uptoBulkEntries r
def uptoBulkEntry {H : Type} : Lit × DataW H → Nat
  | (.string bytes, d) => bytes.length + uptoBulk d + 1
  | (_, d) => uptoBulk d + 1
 end
def uptoSmall : (H : Type) → List (DataW H) → Bool := fun _ ds => decide (uptoBulkAll ds ≤ 1048576)
def OpenSpec.upto (s : _root_.Go.ChangeSpec) : _root_.Go.OpenSpec := { _root_.Go.OpenSpec.ofChange s with cond := some uptoSmall }

/-- 'replevinlaw12.BlocksPlays', WHERE WHAT IT READS IS OF BULK AT MOST 1048576: true; the input reads as it did. -/
def blocksPlaysUptoRow : OpenClaim := { program := "ytbeemkamjachpaa", sum := "00ff27fb7ba4762ac76ff55c09259a47a23b4e9a633e76ff709602c227a3f282", func := "replevin/replevinlaw12.BlocksPlays", spec := "blocksPlays", unfollowed := true, recurses := true, apart := false, narrowed := true }
def BlocksPlaysUptoSaid : Prop := blocksPlaysUptoRow.holds Try.pinned (OpenSpec.upto blocksPlaysSpec)

/-- 'replevinlaw12.BlocksSafe', WHERE WHAT IT READS IS OF BULK AT MOST 1048576: true; the input reads as it did. -/
def blocksSafeUptoRow : OpenClaim := { program := "ytbeemkamjachpaa", sum := "00ff27fb7ba4762ac76ff55c09259a47a23b4e9a633e76ff709602c227a3f282", func := "replevin/replevinlaw12.BlocksSafe", spec := "blocksSafe", unfollowed := true, recurses := true, apart := false, narrowed := true }
def BlocksSafeUptoSaid : Prop := blocksSafeUptoRow.holds Try.pinned (OpenSpec.upto blocksSafeSpec)

/-- 'replevinlaw12.BlocksGreat', WHERE WHAT IT READS IS OF BULK AT MOST 1048576: true; the input reads as it did. -/
def blocksGreatUptoRow : OpenClaim := { program := "ytbeemkamjachpaa", sum := "00ff27fb7ba4762ac76ff55c09259a47a23b4e9a633e76ff709602c227a3f282", func := "replevin/replevinlaw12.BlocksGreat", spec := "blocksGreat", unfollowed := true, recurses := true, apart := false, narrowed := true }
def BlocksGreatUptoSaid : Prop := blocksGreatUptoRow.holds Try.pinned (OpenSpec.upto blocksGreatSpec)

/-- 'replevinlaw12.BlocksReturns', WHERE WHAT IT READS IS OF BULK AT MOST 1048576: true; the input reads as it did. -/
def blocksReturnsUptoRow : OpenClaim := { program := "ytbeemkamjachpaa", sum := "00ff27fb7ba4762ac76ff55c09259a47a23b4e9a633e76ff709602c227a3f282", func := "replevin/replevinlaw12.BlocksReturns", spec := "blocksReturns", unfollowed := true, recurses := true, apart := false, narrowed := true }
def BlocksReturnsUptoSaid : Prop := blocksReturnsUptoRow.holds Try.pinned (OpenSpec.upto blocksReturnsSpec)

/-- 'replevinlaw12.BlocksNew', WHERE WHAT IT READS IS OF BULK AT MOST 1048576: true; the input reads as it did. -/
def blocksNewUptoRow : OpenClaim := { program := "ytbeemkamjachpaa", sum := "00ff27fb7ba4762ac76ff55c09259a47a23b4e9a633e76ff709602c227a3f282", func := "replevin/replevinlaw12.BlocksNew", spec := "blocksNew", unfollowed := true, recurses := true, apart := false, narrowed := true }
def BlocksNewUptoSaid : Prop := blocksNewUptoRow.holds Try.pinned (OpenSpec.upto blocksNewSpec)

/-- 'replevinlaw12.BlocksClones', WHERE WHAT IT READS IS OF BULK AT MOST 1048576: true; the input reads as it did. -/
def blocksClonesUptoRow : OpenClaim := { program := "ytbeemkamjachpaa", sum := "00ff27fb7ba4762ac76ff55c09259a47a23b4e9a633e76ff709602c227a3f282", func := "replevin/replevinlaw12.BlocksClones", spec := "blocksClones", unfollowed := true, recurses := true, apart := false, narrowed := true }
def BlocksClonesUptoSaid : Prop := blocksClonesUptoRow.holds Try.pinned (OpenSpec.upto blocksClonesSpec)

/-- 'replevinlaw12.BlocksNil', WHERE WHAT IT READS IS OF BULK AT MOST 1048576: true; the input reads as it did. -/
def blocksNilUptoRow : OpenClaim := { program := "ytbeemkamjachpaa", sum := "00ff27fb7ba4762ac76ff55c09259a47a23b4e9a633e76ff709602c227a3f282", func := "replevin/replevinlaw12.BlocksNil", spec := "blocksNil", unfollowed := true, recurses := true, apart := false, narrowed := true }
def BlocksNilUptoSaid : Prop := blocksNilUptoRow.holds Try.pinned (OpenSpec.upto blocksNilSpec)

/-- 'replevinlaw12.BlocksDecodes', WHERE WHAT IT READS IS OF BULK AT MOST 1048576: true; the input reads as it did. -/
def blocksDecodesUptoRow : OpenClaim := { program := "ytbeemkamjachpaa", sum := "00ff27fb7ba4762ac76ff55c09259a47a23b4e9a633e76ff709602c227a3f282", func := "replevin/replevinlaw12.BlocksDecodes", spec := "blocksDecodes", unfollowed := true, recurses := true, apart := false, narrowed := true }
def BlocksDecodesUptoSaid : Prop := blocksDecodesUptoRow.holds Try.pinned (OpenSpec.upto blocksDecodesSpec)

/-- 'replevinlaw12.BlocksEncodes', WHERE WHAT IT READS IS OF BULK AT MOST 1048576: true; the input reads as it did. -/
def blocksEncodesUptoRow : OpenClaim := { program := "ytbeemkamjachpaa", sum := "00ff27fb7ba4762ac76ff55c09259a47a23b4e9a633e76ff709602c227a3f282", func := "replevin/replevinlaw12.BlocksEncodes", spec := "blocksEncodes", unfollowed := true, recurses := true, apart := false, narrowed := true }
def BlocksEncodesUptoSaid : Prop := blocksEncodesUptoRow.holds Try.pinned (OpenSpec.upto blocksEncodesSpec)

end Rows
end Go.Proofs.Ytbeemkamjachpaa
