/-
  NARROWER THAN 'FOR EVERY INPUT', by the rows' own cells (each row's printed sentence says how): AccessParts: laid · AccessTwice: laid · AccessJoins: laid · AccessChanges: laid · AccessRuns: laid · AccessTexts: laid.
  DERIVED. THE GIVEN ROWS OF THIS SEAT. 6 by the template 'for every input the law returns true; each argument reads behind the call as it read before'; 0 by the template 'total and deterministic' (their statements: YtgegkjjknlfkpaaDoorTotals.lean).
  GIVEN WITH THE SEED: the statements are not yours to turn. If you find one false, say at which input.
  Laid BY PROGRAM, IN A SANDBOX (cutbox-rows.mjs): the forced cells as the released guide's own fill.sh prints them over the translation 3fe3088911ba3678… (all of the seat's roots in one cut). By AI agents, Wed Nov 11 2026. No macro, syntax, notation, axiom, sorry.
-/
import Derived.Test.YtgegkjjknlfkpaaDoorChecked
import GoSem.Claim
import GoSem.ClaimJoined
import GoSem.ClaimMapViews
import Derived.JoinedTies
import Derived.KernelRfl
namespace Go.Proofs.YtgegkjjknlfkpaaDoor
/- THE CELL 'sum', in the pinned program and in every row, IS THE sha256 OF THE DUMP (.gsa) THAT YtgegkjjknlfkpaaDoorProg.lean LOADS. Nothing in Lean hashes anything: it is a label: what it is worth is what the hold of that sum in a sandbox is worth. -/
noncomputable def Tryd.pinned : Pinned := { name := "ytgegkjjknlfkpaadoor", sum := "3fe3088911ba367897e02db2a4ffe45bf23f58950bfdd69b5d54c72510d15b9b", checked := Tryd.checked }
namespace Rows
def none {H : Type} : Left H := { results := [], args := [] }

/- WHAT THE LISTED PACKAGE-LEVEL VARIABLES READ AS WHEN THE CALL BEGINS. Each datum BY PROGRAM (the guide's laid-datum.mjs) off the statement by which the dump's own 'gosem.cut.vars' lays the variable. In a bare row this is a premise. The card (YtgegkjjknlfkpaaDoorCards.lean) ties it to the program's text. -/
def laid_replevin_access_shifts {H : Type} : DataW H := .agg [.lit (.int .i64 6), .lit (.int .i64 3), .lit (.int .i64 0)]

/-- 'replevinlaw26.AccessParts': WHATEVER THE INPUT: true; the input reads as it did. -/
def accessPartsSpec : ChangeSpec := { name := "accessParts", fn := fun _ => fun
  | [d1, d2, d3] => { results := [.lit (.bool true)], args := [d1, d2, d3] }
  | _ => none }
def accessPartsRow : OpenClaim := { program := "ytgegkjjknlfkpaadoor", sum := "3fe3088911ba367897e02db2a4ffe45bf23f58950bfdd69b5d54c72510d15b9b", func := "replevin/replevinlaw26.AccessParts", spec := "accessParts", unfollowed := true, recurses := true, named := ["replevin/access.shifts"], apart := false, laid := [("replevin/access.shifts", laid_replevin_access_shifts)] }
def AccessPartsSaid : Prop := accessPartsRow.holds Tryd.pinned (OpenSpec.ofChange accessPartsSpec)

/-- ITS FALSE NEIGHBOUR: 'it returns false'. Refute it at one input. -/
def accessPartsWrong : ChangeSpec := { name := "accessParts", fn := fun _ => fun
  | [d1, d2, d3] => { results := [.lit (.bool false)], args := [d1, d2, d3] }
  | _ => none }
def AccessPartsWrongFalsely : Prop := accessPartsRow.holds Tryd.pinned (OpenSpec.ofChange accessPartsWrong)

/-- 'replevinlaw26.AccessTwice': WHATEVER THE INPUT: true; the input reads as it did. -/
def accessTwiceSpec : ChangeSpec := { name := "accessTwice", fn := fun _ => fun
  | [d1, d2] => { results := [.lit (.bool true)], args := [d1, d2] }
  | _ => none }
def accessTwiceRow : OpenClaim := { program := "ytgegkjjknlfkpaadoor", sum := "3fe3088911ba367897e02db2a4ffe45bf23f58950bfdd69b5d54c72510d15b9b", func := "replevin/replevinlaw26.AccessTwice", spec := "accessTwice", unfollowed := true, recurses := true, named := ["replevin/access.shifts"], apart := false, laid := [("replevin/access.shifts", laid_replevin_access_shifts)] }
def AccessTwiceSaid : Prop := accessTwiceRow.holds Tryd.pinned (OpenSpec.ofChange accessTwiceSpec)

/-- ITS FALSE NEIGHBOUR: 'it returns false'. Refute it at one input. -/
def accessTwiceWrong : ChangeSpec := { name := "accessTwice", fn := fun _ => fun
  | [d1, d2] => { results := [.lit (.bool false)], args := [d1, d2] }
  | _ => none }
def AccessTwiceWrongFalsely : Prop := accessTwiceRow.holds Tryd.pinned (OpenSpec.ofChange accessTwiceWrong)

/-- 'replevinlaw26.AccessJoins': WHATEVER THE INPUT: true; the input reads as it did. -/
def accessJoinsSpec : ChangeSpec := { name := "accessJoins", fn := fun _ => fun
  | [d1, d2, d3] => { results := [.lit (.bool true)], args := [d1, d2, d3] }
  | _ => none }
def accessJoinsRow : OpenClaim := { program := "ytgegkjjknlfkpaadoor", sum := "3fe3088911ba367897e02db2a4ffe45bf23f58950bfdd69b5d54c72510d15b9b", func := "replevin/replevinlaw26.AccessJoins", spec := "accessJoins", unfollowed := true, recurses := true, named := ["replevin/access.shifts"], apart := false, laid := [("replevin/access.shifts", laid_replevin_access_shifts)] }
def AccessJoinsSaid : Prop := accessJoinsRow.holds Tryd.pinned (OpenSpec.ofChange accessJoinsSpec)

/-- ITS FALSE NEIGHBOUR: 'it returns false'. Refute it at one input. -/
def accessJoinsWrong : ChangeSpec := { name := "accessJoins", fn := fun _ => fun
  | [d1, d2, d3] => { results := [.lit (.bool false)], args := [d1, d2, d3] }
  | _ => none }
def AccessJoinsWrongFalsely : Prop := accessJoinsRow.holds Tryd.pinned (OpenSpec.ofChange accessJoinsWrong)

/-- 'replevinlaw26.AccessChanges': WHATEVER THE INPUT: true; the input reads as it did. -/
def accessChangesSpec : ChangeSpec := { name := "accessChanges", fn := fun _ => fun
  | [d1, d2, d3] => { results := [.lit (.bool true)], args := [d1, d2, d3] }
  | _ => none }
def accessChangesRow : OpenClaim := { program := "ytgegkjjknlfkpaadoor", sum := "3fe3088911ba367897e02db2a4ffe45bf23f58950bfdd69b5d54c72510d15b9b", func := "replevin/replevinlaw26.AccessChanges", spec := "accessChanges", unfollowed := true, recurses := true, named := ["replevin/access.shifts"], apart := false, laid := [("replevin/access.shifts", laid_replevin_access_shifts)] }
def AccessChangesSaid : Prop := accessChangesRow.holds Tryd.pinned (OpenSpec.ofChange accessChangesSpec)

/-- ITS FALSE NEIGHBOUR: 'it returns false'. Refute it at one input. -/
def accessChangesWrong : ChangeSpec := { name := "accessChanges", fn := fun _ => fun
  | [d1, d2, d3] => { results := [.lit (.bool false)], args := [d1, d2, d3] }
  | _ => none }
def AccessChangesWrongFalsely : Prop := accessChangesRow.holds Tryd.pinned (OpenSpec.ofChange accessChangesWrong)

/-- 'replevinlaw26.AccessRuns': WHATEVER THE INPUT: true; the input reads as it did. -/
def accessRunsSpec : ChangeSpec := { name := "accessRuns", fn := fun _ => fun
  | [d1, d2, d3] => { results := [.lit (.bool true)], args := [d1, d2, d3] }
  | _ => none }
def accessRunsRow : OpenClaim := { program := "ytgegkjjknlfkpaadoor", sum := "3fe3088911ba367897e02db2a4ffe45bf23f58950bfdd69b5d54c72510d15b9b", func := "replevin/replevinlaw26.AccessRuns", spec := "accessRuns", unfollowed := true, recurses := true, named := ["replevin/access.shifts"], apart := false, laid := [("replevin/access.shifts", laid_replevin_access_shifts)] }
def AccessRunsSaid : Prop := accessRunsRow.holds Tryd.pinned (OpenSpec.ofChange accessRunsSpec)

/-- ITS FALSE NEIGHBOUR: 'it returns false'. Refute it at one input. -/
def accessRunsWrong : ChangeSpec := { name := "accessRuns", fn := fun _ => fun
  | [d1, d2, d3] => { results := [.lit (.bool false)], args := [d1, d2, d3] }
  | _ => none }
def AccessRunsWrongFalsely : Prop := accessRunsRow.holds Tryd.pinned (OpenSpec.ofChange accessRunsWrong)

/-- 'replevinlaw26.AccessTexts': WHATEVER THE INPUT: true; the input reads as it did. -/
def accessTextsSpec : ChangeSpec := { name := "accessTexts", fn := fun _ => fun
  | [d] => { results := [.lit (.bool true)], args := [d] }
  | _ => none }
def accessTextsRow : OpenClaim := { program := "ytgegkjjknlfkpaadoor", sum := "3fe3088911ba367897e02db2a4ffe45bf23f58950bfdd69b5d54c72510d15b9b", func := "replevin/replevinlaw26.AccessTexts", spec := "accessTexts", unfollowed := true, recurses := true, named := ["replevin/access.shifts"], apart := false, laid := [("replevin/access.shifts", laid_replevin_access_shifts)] }
def AccessTextsSaid : Prop := accessTextsRow.holds Tryd.pinned (OpenSpec.ofChange accessTextsSpec)

/-- ITS FALSE NEIGHBOUR: 'it returns false'. Refute it at one input. -/
def accessTextsWrong : ChangeSpec := { name := "accessTexts", fn := fun _ => fun
  | [d] => { results := [.lit (.bool false)], args := [d] }
  | _ => none }
def AccessTextsWrongFalsely : Prop := accessTextsRow.holds Tryd.pinned (OpenSpec.ofChange accessTextsWrong)

/- THE SECOND FORM. 'bulk': how many values and letters a reading holds, each counted each time it is reached (what is shared counts as often as it is met; a slice's spare places count too). A statement '..UptoSaid' is the law's where the arguments, and the package variables that the reading takes, are together of bulk at most 1048576: NARROWER than '..Said'. Prove '..Said' where nothing that the law and all that it calls make is longer than what came in: it says more and counts as full. Else prove '..UptoSaid'. A law counts once. -/
mutual
def uptoBulk {H : Type} : DataW H → Nat
  | .lit (.string bytes) => bytes.length + 1
  | .lit _ => 1
  | .nil => 1
  | .ptr d => uptoBulk d + 1
  | .slice elems spare => uptoBulkAll elems + uptoBulkAll spare + 1
  | .agg parts => uptoBulkAll parts + 1
  | .iface _ d => uptoBulk d + 1
  | .map entries => uptoBulkEntries entries + 1
  | .held _ => 1
def uptoBulkAll {H : Type} : List (DataW H) → Nat
  | [] => 0
  | d :: r => uptoBulk d + uptoBulkAll r
def uptoBulkEntries {H : Type} : List (Lit × DataW H) → Nat
  | [] => 0
  | x :: r => uptoBulkEntry x + uptoBulkEntries r
def uptoBulkEntry {H : Type} : Lit × DataW H → Nat
  | (.string bytes, d) => bytes.length + uptoBulk d + 1
  | (_, d) => uptoBulk d + 1
 end
def uptoSmall : (H : Type) → List (DataW H) → Bool := fun _ ds => decide (uptoBulkAll ds ≤ 1048576)
def OpenSpec.upto (s : _root_.Go.ChangeSpec) : _root_.Go.OpenSpec := { _root_.Go.OpenSpec.ofChange s with cond := some uptoSmall }

/-- 'replevinlaw26.AccessParts', WHERE WHAT IT READS IS OF BULK AT MOST 1048576: true; the input reads as it did. -/
def accessPartsUptoRow : OpenClaim := { program := "ytgegkjjknlfkpaadoor", sum := "3fe3088911ba367897e02db2a4ffe45bf23f58950bfdd69b5d54c72510d15b9b", func := "replevin/replevinlaw26.AccessParts", spec := "accessParts", unfollowed := true, recurses := true, named := ["replevin/access.shifts"], apart := false, laid := [("replevin/access.shifts", laid_replevin_access_shifts)], narrowed := true }
def AccessPartsUptoSaid : Prop := accessPartsUptoRow.holds Tryd.pinned (OpenSpec.upto accessPartsSpec)

/-- 'replevinlaw26.AccessTwice', WHERE WHAT IT READS IS OF BULK AT MOST 1048576: true; the input reads as it did. -/
def accessTwiceUptoRow : OpenClaim := { program := "ytgegkjjknlfkpaadoor", sum := "3fe3088911ba367897e02db2a4ffe45bf23f58950bfdd69b5d54c72510d15b9b", func := "replevin/replevinlaw26.AccessTwice", spec := "accessTwice", unfollowed := true, recurses := true, named := ["replevin/access.shifts"], apart := false, laid := [("replevin/access.shifts", laid_replevin_access_shifts)], narrowed := true }
def AccessTwiceUptoSaid : Prop := accessTwiceUptoRow.holds Tryd.pinned (OpenSpec.upto accessTwiceSpec)

/-- 'replevinlaw26.AccessJoins', WHERE WHAT IT READS IS OF BULK AT MOST 1048576: true; the input reads as it did. -/
def accessJoinsUptoRow : OpenClaim := { program := "ytgegkjjknlfkpaadoor", sum := "3fe3088911ba367897e02db2a4ffe45bf23f58950bfdd69b5d54c72510d15b9b", func := "replevin/replevinlaw26.AccessJoins", spec := "accessJoins", unfollowed := true, recurses := true, named := ["replevin/access.shifts"], apart := false, laid := [("replevin/access.shifts", laid_replevin_access_shifts)], narrowed := true }
def AccessJoinsUptoSaid : Prop := accessJoinsUptoRow.holds Tryd.pinned (OpenSpec.upto accessJoinsSpec)

/-- 'replevinlaw26.AccessChanges', WHERE WHAT IT READS IS OF BULK AT MOST 1048576: true; the input reads as it did. -/
def accessChangesUptoRow : OpenClaim := { program := "ytgegkjjknlfkpaadoor", sum := "3fe3088911ba367897e02db2a4ffe45bf23f58950bfdd69b5d54c72510d15b9b", func := "replevin/replevinlaw26.AccessChanges", spec := "accessChanges", unfollowed := true, recurses := true, named := ["replevin/access.shifts"], apart := false, laid := [("replevin/access.shifts", laid_replevin_access_shifts)], narrowed := true }
def AccessChangesUptoSaid : Prop := accessChangesUptoRow.holds Tryd.pinned (OpenSpec.upto accessChangesSpec)

/-- 'replevinlaw26.AccessRuns', WHERE WHAT IT READS IS OF BULK AT MOST 1048576: true; the input reads as it did. -/
def accessRunsUptoRow : OpenClaim := { program := "ytgegkjjknlfkpaadoor", sum := "3fe3088911ba367897e02db2a4ffe45bf23f58950bfdd69b5d54c72510d15b9b", func := "replevin/replevinlaw26.AccessRuns", spec := "accessRuns", unfollowed := true, recurses := true, named := ["replevin/access.shifts"], apart := false, laid := [("replevin/access.shifts", laid_replevin_access_shifts)], narrowed := true }
def AccessRunsUptoSaid : Prop := accessRunsUptoRow.holds Tryd.pinned (OpenSpec.upto accessRunsSpec)

/-- 'replevinlaw26.AccessTexts', WHERE WHAT IT READS IS OF BULK AT MOST 1048576: true; the input reads as it did. -/
def accessTextsUptoRow : OpenClaim := { program := "ytgegkjjknlfkpaadoor", sum := "3fe3088911ba367897e02db2a4ffe45bf23f58950bfdd69b5d54c72510d15b9b", func := "replevin/replevinlaw26.AccessTexts", spec := "accessTexts", unfollowed := true, recurses := true, named := ["replevin/access.shifts"], apart := false, laid := [("replevin/access.shifts", laid_replevin_access_shifts)], narrowed := true }
def AccessTextsUptoSaid : Prop := accessTextsUptoRow.holds Tryd.pinned (OpenSpec.upto accessTextsSpec)

end Rows
end Go.Proofs.YtgegkjjknlfkpaaDoor
