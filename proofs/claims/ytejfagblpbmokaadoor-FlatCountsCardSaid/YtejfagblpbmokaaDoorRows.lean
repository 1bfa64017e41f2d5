/-
  NARROWER THAN 'FOR EVERY INPUT', by the rows' own cells (each row's printed sentence says how): FlatClauses: laid · NamesResolve: laid · NamesBuilt: laid · NamesOrder: laid · NamesHeads: laid · FlatBodies: laid · NamesFinds: laid · FlatCounts: laid · FlatNumbers: laid · FlatVars: laid.
  DERIVED. THE GIVEN ROWS OF THIS SEAT. 10 by the template 'for every input the law returns true; each argument reads behind the call as it read before'; 0 by the template 'total and deterministic' (their statements: YtejfagblpbmokaaDoorTotals.lean).
  GIVEN WITH THE SEED: the statements are not yours to turn. If you find one false, say at which input.
  Laid BY PROGRAM, IN A SANDBOX (cutbox-rows.mjs): the forced cells as the released guide's own fill.sh prints them over the translation da59474508b4f4d5… (all of the seat's roots in one cut). By AI agents, Wed Nov 11 2026. No macro, syntax, notation, axiom, sorry.
-/
import Derived.Test.YtejfagblpbmokaaDoorChecked
import GoSem.Claim
import GoSem.ClaimJoined
import GoSem.ClaimMapViews
import Derived.JoinedTies
import Derived.KernelRfl
namespace Go.Proofs.YtejfagblpbmokaaDoor
/- THE CELL 'sum', in the pinned program and in every row, IS THE sha256 OF THE DUMP (.gsa) THAT YtejfagblpbmokaaDoorProg.lean LOADS. Nothing in Lean hashes anything: it is a label: what it is worth is what the hold of that sum in a sandbox is worth. -/
noncomputable def Tryd.pinned : Pinned := { name := "ytejfagblpbmokaadoor", sum := "da59474508b4f4d5fc4ecec86a17c41d96f9c18609c6d3b147fb54dcfa38b98c", checked := Tryd.checked }
namespace Rows
def none {H : Type} : Left H := { results := [], args := [] }

/- WHAT THE LISTED PACKAGE-LEVEL VARIABLES READ AS WHEN THE CALL BEGINS. Each datum BY PROGRAM (the guide's laid-datum.mjs) off the statement by which the dump's own 'gosem.cut.vars' lays the variable. In a bare row this is a premise. The card (YtejfagblpbmokaaDoorCards.lean) ties it to the program's text. -/
def laid_augur_api_ErrLarge {H : Type} : DataW H := .iface "*errors.errorString" (.ptr (.agg [.lit (.string [97, 117, 103, 117, 114, 58, 32, 108, 97, 114, 103, 101])]))
def laid_augur_api_ErrNone {H : Type} : DataW H := .iface "*errors.errorString" (.ptr (.agg [.lit (.string [97, 117, 103, 117, 114, 58, 32, 110, 111, 110, 101])]))
def laid_augur_api_ErrNames {H : Type} : DataW H := .iface "*errors.errorString" (.ptr (.agg [.lit (.string [97, 117, 103, 117, 114, 58, 32, 110, 97, 109, 101, 115])]))
def laid_augur_api_ErrText {H : Type} : DataW H := .iface "*errors.errorString" (.ptr (.agg [.lit (.string [97, 117, 103, 117, 114, 58, 32, 116, 101, 120, 116])]))
def laid_augur_api_ErrSyntax {H : Type} : DataW H := .iface "*errors.errorString" (.ptr (.agg [.lit (.string [97, 117, 103, 117, 114, 58, 32, 115, 121, 110, 116, 97, 120])]))
def laid_augur_api_ErrNest {H : Type} : DataW H := .iface "*errors.errorString" (.ptr (.agg [.lit (.string [97, 117, 103, 117, 114, 58, 32, 110, 101, 115, 116])]))
def laid_augur_api_ErrTypes {H : Type} : DataW H := .iface "*errors.errorString" (.ptr (.agg [.lit (.string [97, 117, 103, 117, 114, 58, 32, 116, 121, 112, 101, 115])]))
def laid_augur_api_ErrModes {H : Type} : DataW H := .iface "*errors.errorString" (.ptr (.agg [.lit (.string [97, 117, 103, 117, 114, 58, 32, 109, 111, 100, 101, 115])]))
def laid_augur_api_ErrDet {H : Type} : DataW H := .iface "*errors.errorString" (.ptr (.agg [.lit (.string [97, 117, 103, 117, 114, 58, 32, 100, 101, 116, 101, 114, 109, 105, 110, 105, 115, 109])]))
def laid_augur_api_ErrData {H : Type} : DataW H := .iface "*errors.errorString" (.ptr (.agg [.lit (.string [97, 117, 103, 117, 114, 58, 32, 100, 97, 116, 97])]))
def laid_augur_api_ErrBytes {H : Type} : DataW H := .iface "*errors.errorString" (.ptr (.agg [.lit (.string [97, 117, 103, 117, 114, 58, 32, 98, 121, 116, 101, 115])]))
def laid_augur_api_ErrCode {H : Type} : DataW H := .iface "*errors.errorString" (.ptr (.agg [.lit (.string [97, 117, 103, 117, 114, 58, 32, 99, 111, 100, 101])]))
def laid_augur_api_ErrFuel {H : Type} : DataW H := .iface "*errors.errorString" (.ptr (.agg [.lit (.string [97, 117, 103, 117, 114, 58, 32, 102, 117, 101, 108])]))
def laid_augur_api_ErrHeap {H : Type} : DataW H := .iface "*errors.errorString" (.ptr (.agg [.lit (.string [97, 117, 103, 117, 114, 58, 32, 104, 101, 97, 112])]))
def laid_augur_api_ErrFrames {H : Type} : DataW H := .iface "*errors.errorString" (.ptr (.agg [.lit (.string [97, 117, 103, 117, 114, 58, 32, 102, 114, 97, 109, 101, 115])]))
def laid_augur_api_ErrState {H : Type} : DataW H := .iface "*errors.errorString" (.ptr (.agg [.lit (.string [97, 117, 103, 117, 114, 58, 32, 115, 116, 97, 116, 101])]))

/-- 'augurlaw05.FlatClauses': WHATEVER THE INPUT: true; the input reads as it did. -/
def flatClausesSpec : ChangeSpec := { name := "flatClauses", fn := fun _ => fun
  | [d] => { results := [.lit (.bool true)], args := [d] }
  | _ => none }
def flatClausesRow : OpenClaim := { program := "ytejfagblpbmokaadoor", sum := "da59474508b4f4d5fc4ecec86a17c41d96f9c18609c6d3b147fb54dcfa38b98c", func := "augur/augurlaw05.FlatClauses", spec := "flatClauses", unfollowed := true, recurses := true, named := ["augur/api.ErrNone", "augur/api.ErrLarge"], plainKeys := false, apart := false, laid := [("augur/api.ErrLarge", laid_augur_api_ErrLarge), ("augur/api.ErrNone", laid_augur_api_ErrNone)] }
def FlatClausesSaid : Prop := flatClausesRow.holds Tryd.pinned (OpenSpec.ofChange flatClausesSpec)

/-- ITS FALSE NEIGHBOUR: 'it returns false'. Refute it at one input. -/
def flatClausesWrong : ChangeSpec := { name := "flatClauses", fn := fun _ => fun
  | [d] => { results := [.lit (.bool false)], args := [d] }
  | _ => none }
def FlatClausesWrongFalsely : Prop := flatClausesRow.holds Tryd.pinned (OpenSpec.ofChange flatClausesWrong)

/-- 'augurlaw04.NamesResolve': WHATEVER THE INPUT: true; the input reads as it did. -/
def namesResolveSpec : ChangeSpec := { name := "namesResolve", fn := fun _ => fun
  | [d] => { results := [.lit (.bool true)], args := [d] }
  | _ => none }
def namesResolveRow : OpenClaim := { program := "ytejfagblpbmokaadoor", sum := "da59474508b4f4d5fc4ecec86a17c41d96f9c18609c6d3b147fb54dcfa38b98c", func := "augur/augurlaw04.NamesResolve", spec := "namesResolve", unfollowed := true, recurses := true, named := ["augur/api.ErrNames"], plainKeys := false, apart := false, laid := [("augur/api.ErrNames", laid_augur_api_ErrNames)] }
def NamesResolveSaid : Prop := namesResolveRow.holds Tryd.pinned (OpenSpec.ofChange namesResolveSpec)

/-- ITS FALSE NEIGHBOUR: 'it returns false'. Refute it at one input. -/
def namesResolveWrong : ChangeSpec := { name := "namesResolve", fn := fun _ => fun
  | [d] => { results := [.lit (.bool false)], args := [d] }
  | _ => none }
def NamesResolveWrongFalsely : Prop := namesResolveRow.holds Tryd.pinned (OpenSpec.ofChange namesResolveWrong)

/-- 'augurlaw04.NamesBuilt': WHATEVER THE INPUT: true; the input reads as it did. -/
def namesBuiltSpec : ChangeSpec := { name := "namesBuilt", fn := fun _ => fun
  | [d1, d2] => { results := [.lit (.bool true)], args := [d1, d2] }
  | _ => none }
def namesBuiltRow : OpenClaim := { program := "ytejfagblpbmokaadoor", sum := "da59474508b4f4d5fc4ecec86a17c41d96f9c18609c6d3b147fb54dcfa38b98c", func := "augur/augurlaw04.NamesBuilt", spec := "namesBuilt", unfollowed := true, recurses := true, named := ["augur/api.ErrNames"], plainKeys := false, apart := false, laid := [("augur/api.ErrNames", laid_augur_api_ErrNames)] }
def NamesBuiltSaid : Prop := namesBuiltRow.holds Tryd.pinned (OpenSpec.ofChange namesBuiltSpec)

/-- ITS FALSE NEIGHBOUR: 'it returns false'. Refute it at one input. -/
def namesBuiltWrong : ChangeSpec := { name := "namesBuilt", fn := fun _ => fun
  | [d1, d2] => { results := [.lit (.bool false)], args := [d1, d2] }
  | _ => none }
def NamesBuiltWrongFalsely : Prop := namesBuiltRow.holds Tryd.pinned (OpenSpec.ofChange namesBuiltWrong)

/-- 'augurlaw04.NamesOrder': WHATEVER THE INPUT: true; the input reads as it did. -/
def namesOrderSpec : ChangeSpec := { name := "namesOrder", fn := fun _ => fun
  | [d] => { results := [.lit (.bool true)], args := [d] }
  | _ => none }
def namesOrderRow : OpenClaim := { program := "ytejfagblpbmokaadoor", sum := "da59474508b4f4d5fc4ecec86a17c41d96f9c18609c6d3b147fb54dcfa38b98c", func := "augur/augurlaw04.NamesOrder", spec := "namesOrder", unfollowed := true, recurses := true, named := ["augur/api.ErrNames", "augur/api.ErrText", "augur/api.ErrSyntax", "augur/api.ErrNest", "augur/api.ErrLarge", "augur/api.ErrTypes", "augur/api.ErrModes", "augur/api.ErrDet", "augur/api.ErrNone", "augur/api.ErrData", "augur/api.ErrBytes", "augur/api.ErrCode", "augur/api.ErrFuel", "augur/api.ErrHeap", "augur/api.ErrFrames", "augur/api.ErrState"], plainKeys := false, apart := false, laid := [("augur/api.ErrText", laid_augur_api_ErrText), ("augur/api.ErrSyntax", laid_augur_api_ErrSyntax), ("augur/api.ErrNest", laid_augur_api_ErrNest), ("augur/api.ErrLarge", laid_augur_api_ErrLarge), ("augur/api.ErrNames", laid_augur_api_ErrNames), ("augur/api.ErrTypes", laid_augur_api_ErrTypes), ("augur/api.ErrModes", laid_augur_api_ErrModes), ("augur/api.ErrDet", laid_augur_api_ErrDet), ("augur/api.ErrNone", laid_augur_api_ErrNone), ("augur/api.ErrData", laid_augur_api_ErrData), ("augur/api.ErrBytes", laid_augur_api_ErrBytes), ("augur/api.ErrCode", laid_augur_api_ErrCode), ("augur/api.ErrFuel", laid_augur_api_ErrFuel), ("augur/api.ErrHeap", laid_augur_api_ErrHeap), ("augur/api.ErrFrames", laid_augur_api_ErrFrames), ("augur/api.ErrState", laid_augur_api_ErrState)] }
def NamesOrderSaid : Prop := namesOrderRow.holds Tryd.pinned (OpenSpec.ofChange namesOrderSpec)

/-- ITS FALSE NEIGHBOUR: 'it returns false'. Refute it at one input. -/
def namesOrderWrong : ChangeSpec := { name := "namesOrder", fn := fun _ => fun
  | [d] => { results := [.lit (.bool false)], args := [d] }
  | _ => none }
def NamesOrderWrongFalsely : Prop := namesOrderRow.holds Tryd.pinned (OpenSpec.ofChange namesOrderWrong)

/-- 'augurlaw04.NamesHeads': WHATEVER THE INPUT: true; the input reads as it did. -/
def namesHeadsSpec : ChangeSpec := { name := "namesHeads", fn := fun _ => fun
  | [d] => { results := [.lit (.bool true)], args := [d] }
  | _ => none }
def namesHeadsRow : OpenClaim := { program := "ytejfagblpbmokaadoor", sum := "da59474508b4f4d5fc4ecec86a17c41d96f9c18609c6d3b147fb54dcfa38b98c", func := "augur/augurlaw04.NamesHeads", spec := "namesHeads", unfollowed := true, recurses := true, named := ["augur/api.ErrNames"], plainKeys := false, apart := false, laid := [("augur/api.ErrNames", laid_augur_api_ErrNames)] }
def NamesHeadsSaid : Prop := namesHeadsRow.holds Tryd.pinned (OpenSpec.ofChange namesHeadsSpec)

/-- ITS FALSE NEIGHBOUR: 'it returns false'. Refute it at one input. -/
def namesHeadsWrong : ChangeSpec := { name := "namesHeads", fn := fun _ => fun
  | [d] => { results := [.lit (.bool false)], args := [d] }
  | _ => none }
def NamesHeadsWrongFalsely : Prop := namesHeadsRow.holds Tryd.pinned (OpenSpec.ofChange namesHeadsWrong)

/-- 'augurlaw05.FlatBodies': WHATEVER THE INPUT: true; the input reads as it did. -/
def flatBodiesSpec : ChangeSpec := { name := "flatBodies", fn := fun _ => fun
  | [d1, d2] => { results := [.lit (.bool true)], args := [d1, d2] }
  | _ => none }
def flatBodiesRow : OpenClaim := { program := "ytejfagblpbmokaadoor", sum := "da59474508b4f4d5fc4ecec86a17c41d96f9c18609c6d3b147fb54dcfa38b98c", func := "augur/augurlaw05.FlatBodies", spec := "flatBodies", unfollowed := true, recurses := true, named := ["augur/api.ErrNone", "augur/api.ErrLarge", "augur/api.ErrText", "augur/api.ErrSyntax", "augur/api.ErrNest", "augur/api.ErrNames", "augur/api.ErrTypes", "augur/api.ErrModes", "augur/api.ErrDet", "augur/api.ErrData", "augur/api.ErrBytes", "augur/api.ErrCode", "augur/api.ErrFuel", "augur/api.ErrHeap", "augur/api.ErrFrames", "augur/api.ErrState"], plainKeys := false, apart := false, laid := [("augur/api.ErrText", laid_augur_api_ErrText), ("augur/api.ErrSyntax", laid_augur_api_ErrSyntax), ("augur/api.ErrNest", laid_augur_api_ErrNest), ("augur/api.ErrLarge", laid_augur_api_ErrLarge), ("augur/api.ErrNames", laid_augur_api_ErrNames), ("augur/api.ErrTypes", laid_augur_api_ErrTypes), ("augur/api.ErrModes", laid_augur_api_ErrModes), ("augur/api.ErrDet", laid_augur_api_ErrDet), ("augur/api.ErrNone", laid_augur_api_ErrNone), ("augur/api.ErrData", laid_augur_api_ErrData), ("augur/api.ErrBytes", laid_augur_api_ErrBytes), ("augur/api.ErrCode", laid_augur_api_ErrCode), ("augur/api.ErrFuel", laid_augur_api_ErrFuel), ("augur/api.ErrHeap", laid_augur_api_ErrHeap), ("augur/api.ErrFrames", laid_augur_api_ErrFrames), ("augur/api.ErrState", laid_augur_api_ErrState)] }
def FlatBodiesSaid : Prop := flatBodiesRow.holds Tryd.pinned (OpenSpec.ofChange flatBodiesSpec)

/-- ITS FALSE NEIGHBOUR: 'it returns false'. Refute it at one input. -/
def flatBodiesWrong : ChangeSpec := { name := "flatBodies", fn := fun _ => fun
  | [d1, d2] => { results := [.lit (.bool false)], args := [d1, d2] }
  | _ => none }
def FlatBodiesWrongFalsely : Prop := flatBodiesRow.holds Tryd.pinned (OpenSpec.ofChange flatBodiesWrong)

/-- 'augurlaw04.NamesFinds': WHATEVER THE INPUT: true; the input reads as it did. -/
def namesFindsSpec : ChangeSpec := { name := "namesFinds", fn := fun _ => fun
  | [d1, d2, d3] => { results := [.lit (.bool true)], args := [d1, d2, d3] }
  | _ => none }
def namesFindsRow : OpenClaim := { program := "ytejfagblpbmokaadoor", sum := "da59474508b4f4d5fc4ecec86a17c41d96f9c18609c6d3b147fb54dcfa38b98c", func := "augur/augurlaw04.NamesFinds", spec := "namesFinds", unfollowed := true, recurses := true, named := ["augur/api.ErrNames"], plainKeys := false, apart := false, laid := [("augur/api.ErrNames", laid_augur_api_ErrNames)] }
def NamesFindsSaid : Prop := namesFindsRow.holds Tryd.pinned (OpenSpec.ofChange namesFindsSpec)

/-- ITS FALSE NEIGHBOUR: 'it returns false'. Refute it at one input. -/
def namesFindsWrong : ChangeSpec := { name := "namesFinds", fn := fun _ => fun
  | [d1, d2, d3] => { results := [.lit (.bool false)], args := [d1, d2, d3] }
  | _ => none }
def NamesFindsWrongFalsely : Prop := namesFindsRow.holds Tryd.pinned (OpenSpec.ofChange namesFindsWrong)

/-- 'augurlaw05.FlatCounts': WHATEVER THE INPUT: true; the input reads as it did. -/
def flatCountsSpec : ChangeSpec := { name := "flatCounts", fn := fun _ => fun
  | [d] => { results := [.lit (.bool true)], args := [d] }
  | _ => none }
def flatCountsRow : OpenClaim := { program := "ytejfagblpbmokaadoor", sum := "da59474508b4f4d5fc4ecec86a17c41d96f9c18609c6d3b147fb54dcfa38b98c", func := "augur/augurlaw05.FlatCounts", spec := "flatCounts", unfollowed := true, recurses := true, named := ["augur/api.ErrNone", "augur/api.ErrLarge"], plainKeys := false, apart := false, laid := [("augur/api.ErrLarge", laid_augur_api_ErrLarge), ("augur/api.ErrNone", laid_augur_api_ErrNone)] }
def FlatCountsSaid : Prop := flatCountsRow.holds Tryd.pinned (OpenSpec.ofChange flatCountsSpec)

/-- ITS FALSE NEIGHBOUR: 'it returns false'. Refute it at one input. -/
def flatCountsWrong : ChangeSpec := { name := "flatCounts", fn := fun _ => fun
  | [d] => { results := [.lit (.bool false)], args := [d] }
  | _ => none }
def FlatCountsWrongFalsely : Prop := flatCountsRow.holds Tryd.pinned (OpenSpec.ofChange flatCountsWrong)

/-- 'augurlaw05.FlatNumbers': WHATEVER THE INPUT: true; the input reads as it did. -/
def flatNumbersSpec : ChangeSpec := { name := "flatNumbers", fn := fun _ => fun
  | [d] => { results := [.lit (.bool true)], args := [d] }
  | _ => none }
def flatNumbersRow : OpenClaim := { program := "ytejfagblpbmokaadoor", sum := "da59474508b4f4d5fc4ecec86a17c41d96f9c18609c6d3b147fb54dcfa38b98c", func := "augur/augurlaw05.FlatNumbers", spec := "flatNumbers", unfollowed := true, recurses := true, named := ["augur/api.ErrNone", "augur/api.ErrLarge"], plainKeys := false, apart := false, laid := [("augur/api.ErrLarge", laid_augur_api_ErrLarge), ("augur/api.ErrNone", laid_augur_api_ErrNone)] }
def FlatNumbersSaid : Prop := flatNumbersRow.holds Tryd.pinned (OpenSpec.ofChange flatNumbersSpec)

/-- ITS FALSE NEIGHBOUR: 'it returns false'. Refute it at one input. -/
def flatNumbersWrong : ChangeSpec := { name := "flatNumbers", fn := fun _ => fun
  | [d] => { results := [.lit (.bool false)], args := [d] }
  | _ => none }
def FlatNumbersWrongFalsely : Prop := flatNumbersRow.holds Tryd.pinned (OpenSpec.ofChange flatNumbersWrong)

/-- 'augurlaw05.FlatVars': WHATEVER THE INPUT: true; the input reads as it did. -/
def flatVarsSpec : ChangeSpec := { name := "flatVars", fn := fun _ => fun
  | [d1, d2] => { results := [.lit (.bool true)], args := [d1, d2] }
  | _ => none }
def flatVarsRow : OpenClaim := { program := "ytejfagblpbmokaadoor", sum := "da59474508b4f4d5fc4ecec86a17c41d96f9c18609c6d3b147fb54dcfa38b98c", func := "augur/augurlaw05.FlatVars", spec := "flatVars", unfollowed := true, recurses := true, named := ["augur/api.ErrNone", "augur/api.ErrLarge"], plainKeys := false, apart := false, laid := [("augur/api.ErrLarge", laid_augur_api_ErrLarge), ("augur/api.ErrNone", laid_augur_api_ErrNone)] }
def FlatVarsSaid : Prop := flatVarsRow.holds Tryd.pinned (OpenSpec.ofChange flatVarsSpec)

/-- ITS FALSE NEIGHBOUR: 'it returns false'. Refute it at one input. -/
def flatVarsWrong : ChangeSpec := { name := "flatVars", fn := fun _ => fun
  | [d1, d2] => { results := [.lit (.bool false)], args := [d1, d2] }
  | _ => none }
def FlatVarsWrongFalsely : Prop := flatVarsRow.holds Tryd.pinned (OpenSpec.ofChange flatVarsWrong)

/- THE SECOND FORM. 'bulk': how many values and letters a reading holds, each counted each time it is reached (what is shared counts as often as it is met; a slice's spare places count too). A statement '..UptoSaid' is the law's where the arguments, and the package variables that the reading takes, are together of bulk at most 1048576: NARROWER than '..Said'. Prove '..Said' where nothing that the law and all that it calls make is longer than what came in: it says more and counts as full. Else prove '..UptoSaid'. A law counts once. -/
mutual
def uptoBulk {H : Type} : DataW H → Nat
  | .lit (.string bytes) => bytes.length + 1
  | .lit _ => 1
  | .nil => 1
  | .ptr d => uptoBulk d + 1
  | .slice elems spare => uptoBulkAll elems + uptoBulkAll spare + 1
  | .agg parts => uptoBulkAll parts + 1
  | .iface _ d => uptoBulk d + 1
  | .map entries => uptoBulkEntries entries + 1
  | .held _ => 1
def uptoBulkAll {H : Type} : List (DataW H) → Nat
  | [] => 0
  | d :: r => uptoBulk d + uptoBulkAll r
def uptoBulkEntries {H : Type} : List (Lit × DataW H) → Nat
  | [] => 0
  | x :: r => uptoBulkEntry x + uptoBulkEntries r
def uptoBulkEntry {H : Type} : Lit × DataW H → Nat
  | (.string bytes, d) => bytes.length + uptoBulk d + 1
  | (_, d) => uptoBulk d + 1
 end
def uptoSmall : (H : Type) → List (DataW H) → Bool := fun _ ds => decide (uptoBulkAll ds ≤ 1048576)
def OpenSpec.upto (s : _root_.Go.ChangeSpec) : _root_.Go.OpenSpec := { _root_.Go.OpenSpec.ofChange s with cond := some uptoSmall }

/-- 'augurlaw05.FlatClauses', WHERE WHAT IT READS IS OF BULK AT MOST 1048576: true; the input reads as it did. -/
def flatClausesUptoRow : OpenClaim := { program := "ytejfagblpbmokaadoor", sum := "da59474508b4f4d5fc4ecec86a17c41d96f9c18609c6d3b147fb54dcfa38b98c", func := "augur/augurlaw05.FlatClauses", spec := "flatClauses", unfollowed := true, recurses := true, named := ["augur/api.ErrNone", "augur/api.ErrLarge"], plainKeys := false, apart := false, laid := [("augur/api.ErrLarge", laid_augur_api_ErrLarge), ("augur/api.ErrNone", laid_augur_api_ErrNone)], narrowed := true }
def FlatClausesUptoSaid : Prop := flatClausesUptoRow.holds Tryd.pinned (OpenSpec.upto flatClausesSpec)

/-- 'augurlaw04.NamesResolve', WHERE WHAT IT READS IS OF BULK AT MOST 1048576: true; the input reads as it did. -/
def namesResolveUptoRow : OpenClaim := { program := "ytejfagblpbmokaadoor", sum := "da59474508b4f4d5fc4ecec86a17c41d96f9c18609c6d3b147fb54dcfa38b98c", func := "augur/augurlaw04.NamesResolve", spec := "namesResolve", unfollowed := true, recurses := true, named := ["augur/api.ErrNames"], plainKeys := false, apart := false, laid := [("augur/api.ErrNames", laid_augur_api_ErrNames)], narrowed := true }
def NamesResolveUptoSaid : Prop := namesResolveUptoRow.holds Tryd.pinned (OpenSpec.upto namesResolveSpec)

/-- 'augurlaw04.NamesBuilt', WHERE WHAT IT READS IS OF BULK AT MOST 1048576: true; the input reads as it did. -/
def namesBuiltUptoRow : OpenClaim := { program := "ytejfagblpbmokaadoor", sum := "da59474508b4f4d5fc4ecec86a17c41d96f9c18609c6d3b147fb54dcfa38b98c", func := "augur/augurlaw04.NamesBuilt", spec := "namesBuilt", unfollowed := true, recurses := true, named := ["augur/api.ErrNames"], plainKeys := false, apart := false, laid := [("augur/api.ErrNames", laid_augur_api_ErrNames)], narrowed := true }
def NamesBuiltUptoSaid : Prop := namesBuiltUptoRow.holds Tryd.pinned (OpenSpec.upto namesBuiltSpec)

/-- 'augurlaw04.NamesOrder', WHERE WHAT IT READS IS OF BULK AT MOST 1048576: true; the input reads as it did. -/
def namesOrderUptoRow : OpenClaim := { program := "ytejfagblpbmokaadoor", sum := "da59474508b4f4d5fc4ecec86a17c41d96f9c18609c6d3b147fb54dcfa38b98c", func := "augur/augurlaw04.NamesOrder", spec := "namesOrder", unfollowed := true, recurses := true, named := ["augur/api.ErrNames", "augur/api.ErrText", "augur/api.ErrSyntax", "augur/api.ErrNest", "augur/api.ErrLarge", "augur/api.ErrTypes", "augur/api.ErrModes", "augur/api.ErrDet", "augur/api.ErrNone", "augur/api.ErrData", "augur/api.ErrBytes", "augur/api.ErrCode", "augur/api.ErrFuel", "augur/api.ErrHeap", "augur/api.ErrFrames", "augur/api.ErrState"], plainKeys := false, apart := false, laid := [("augur/api.ErrText", laid_augur_api_ErrText), ("augur/api.ErrSyntax", laid_augur_api_ErrSyntax), ("augur/api.ErrNest", laid_augur_api_ErrNest), ("augur/api.ErrLarge", laid_augur_api_ErrLarge), ("augur/api.ErrNames", laid_augur_api_ErrNames), ("augur/api.ErrTypes", laid_augur_api_ErrTypes), ("augur/api.ErrModes", laid_augur_api_ErrModes), ("augur/api.ErrDet", laid_augur_api_ErrDet), ("augur/api.ErrNone", laid_augur_api_ErrNone), ("augur/api.ErrData", laid_augur_api_ErrData), ("augur/api.ErrBytes", laid_augur_api_ErrBytes), ("augur/api.ErrCode", laid_augur_api_ErrCode), ("augur/api.ErrFuel", laid_augur_api_ErrFuel), ("augur/api.ErrHeap", laid_augur_api_ErrHeap), ("augur/api.ErrFrames", laid_augur_api_ErrFrames), ("augur/api.ErrState", laid_augur_api_ErrState)], narrowed := true }
def NamesOrderUptoSaid : Prop := namesOrderUptoRow.holds Tryd.pinned (OpenSpec.upto namesOrderSpec)

/-- 'augurlaw04.NamesHeads', WHERE WHAT IT READS IS OF BULK AT MOST 1048576: true; the input reads as it did. -/
def namesHeadsUptoRow : OpenClaim := { program := "ytejfagblpbmokaadoor", sum := "da59474508b4f4d5fc4ecec86a17c41d96f9c18609c6d3b147fb54dcfa38b98c", func := "augur/augurlaw04.NamesHeads", spec := "namesHeads", unfollowed := true, recurses := true, named := ["augur/api.ErrNames"], plainKeys := false, apart := false, laid := [("augur/api.ErrNames", laid_augur_api_ErrNames)], narrowed := true }
def NamesHeadsUptoSaid : Prop := namesHeadsUptoRow.holds Tryd.pinned (OpenSpec.upto namesHeadsSpec)

/-- 'augurlaw05.FlatBodies', WHERE WHAT IT READS IS OF BULK AT MOST 1048576: true; the input reads as it did. -/
def flatBodiesUptoRow : OpenClaim := { program := "ytejfagblpbmokaadoor", sum := "da59474508b4f4d5fc4ecec86a17c41d96f9c18609c6d3b147fb54dcfa38b98c", func := "augur/augurlaw05.FlatBodies", spec := "flatBodies", unfollowed := true, recurses := true, named := ["augur/api.ErrNone", "augur/api.ErrLarge", "augur/api.ErrText", "augur/api.ErrSyntax", "augur/api.ErrNest", "augur/api.ErrNames", "augur/api.ErrTypes", "augur/api.ErrModes", "augur/api.ErrDet", "augur/api.ErrData", "augur/api.ErrBytes", "augur/api.ErrCode", "augur/api.ErrFuel", "augur/api.ErrHeap", "augur/api.ErrFrames", "augur/api.ErrState"], plainKeys := false, apart := false, laid := [("augur/api.ErrText", laid_augur_api_ErrText), ("augur/api.ErrSyntax", laid_augur_api_ErrSyntax), ("augur/api.ErrNest", laid_augur_api_ErrNest), ("augur/api.ErrLarge", laid_augur_api_ErrLarge), ("augur/api.ErrNames", laid_augur_api_ErrNames), ("augur/api.ErrTypes", laid_augur_api_ErrTypes), ("augur/api.ErrModes", laid_augur_api_ErrModes), ("augur/api.ErrDet", laid_augur_api_ErrDet), ("augur/api.ErrNone", laid_augur_api_ErrNone), ("augur/api.ErrData", laid_augur_api_ErrData), ("augur/api.ErrBytes", laid_augur_api_ErrBytes), ("augur/api.ErrCode", laid_augur_api_ErrCode), ("augur/api.ErrFuel", laid_augur_api_ErrFuel), ("augur/api.ErrHeap", laid_augur_api_ErrHeap), ("augur/api.ErrFrames", laid_augur_api_ErrFrames), ("augur/api.ErrState", laid_augur_api_ErrState)], narrowed := true }
def FlatBodiesUptoSaid : Prop := flatBodiesUptoRow.holds Tryd.pinned (OpenSpec.upto flatBodiesSpec)

/-- 'augurlaw04.NamesFinds', WHERE WHAT IT READS IS OF BULK AT MOST 1048576: true; the input reads as it did. -/
def namesFindsUptoRow : OpenClaim := { program := "ytejfagblpbmokaadoor", sum := "da59474508b4f4d5fc4ecec86a17c41d96f9c18609c6d3b147fb54dcfa38b98c", func := "augur/augurlaw04.NamesFinds", spec := "namesFinds", unfollowed := true, recurses := true, named := ["augur/api.ErrNames"], plainKeys := false, apart := false, laid := [("augur/api.ErrNames", laid_augur_api_ErrNames)], narrowed := true }
def NamesFindsUptoSaid : Prop := namesFindsUptoRow.holds Tryd.pinned (OpenSpec.upto namesFindsSpec)

/-- 'augurlaw05.FlatCounts', WHERE WHAT IT READS IS OF BULK AT MOST 1048576: true; the input reads as it did. -/
def flatCountsUptoRow : OpenClaim := { program := "ytejfagblpbmokaadoor", sum := "da59474508b4f4d5fc4ecec86a17c41d96f9c18609c6d3b147fb54dcfa38b98c", func := "augur/augurlaw05.FlatCounts", spec := "flatCounts", unfollowed := true, recurses := true, named := ["augur/api.ErrNone", "augur/api.ErrLarge"], plainKeys := false, apart := false, laid := [("augur/api.ErrLarge", laid_augur_api_ErrLarge), ("augur/api.ErrNone", laid_augur_api_ErrNone)], narrowed := true }
def FlatCountsUptoSaid : Prop := flatCountsUptoRow.holds Tryd.pinned (OpenSpec.upto flatCountsSpec)

/-- 'augurlaw05.FlatNumbers', WHERE WHAT IT READS IS OF BULK AT MOST 1048576: true; the input reads as it did. -/
def flatNumbersUptoRow : OpenClaim := { program := "ytejfagblpbmokaadoor", sum := "da59474508b4f4d5fc4ecec86a17c41d96f9c18609c6d3b147fb54dcfa38b98c", func := "augur/augurlaw05.FlatNumbers", spec := "flatNumbers", unfollowed := true, recurses := true, named := ["augur/api.ErrNone", "augur/api.ErrLarge"], plainKeys := false, apart := false, laid := [("augur/api.ErrLarge", laid_augur_api_ErrLarge), ("augur/api.ErrNone", laid_augur_api_ErrNone)], narrowed := true }
def FlatNumbersUptoSaid : Prop := flatNumbersUptoRow.holds Tryd.pinned (OpenSpec.upto flatNumbersSpec)

/-- 'augurlaw05.FlatVars', WHERE WHAT IT READS IS OF BULK AT MOST 1048576: true; the input reads as it did. -/
def flatVarsUptoRow : OpenClaim := { program := "ytejfagblpbmokaadoor", sum := "da59474508b4f4d5fc4ecec86a17c41d96f9c18609c6d3b147fb54dcfa38b98c", func := "augur/augurlaw05.FlatVars", spec := "flatVars", unfollowed := true, recurses := true, named := ["augur/api.ErrNone", "augur/api.ErrLarge"], plainKeys := false, apart := false, laid := [("augur/api.ErrLarge", laid_augur_api_ErrLarge), ("augur/api.ErrNone", laid_augur_api_ErrNone)], narrowed := true }
def FlatVarsUptoSaid : Prop := flatVarsUptoRow.holds Tryd.pinned (OpenSpec.upto flatVarsSpec)

end Rows
end Go.Proofs.YtejfagblpbmokaaDoor
