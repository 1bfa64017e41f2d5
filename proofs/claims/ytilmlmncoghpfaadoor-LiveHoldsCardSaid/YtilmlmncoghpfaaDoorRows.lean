/-
  NARROWER THAN 'FOR EVERY INPUT', by the rows' own cells (each row's printed sentence says how): LiveWays: loops, laid · LiveHolds: loops, laid · LiveMore: loops, laid.
  DERIVED. THE GIVEN ROWS OF THIS SEAT. 3 by the template 'for every input the law returns true; each argument reads behind the call as it read before'; 0 by the template 'total and deterministic' (their statements: YtilmlmncoghpfaaDoorTotals.lean).
  GIVEN WITH THE SEED: the statements are not yours to turn. If you find one false, say at which input.
  Laid BY PROGRAM, IN A SANDBOX (cutbox-rows.mjs): the forced cells as the released guide's own fill.sh prints them over the translation 459e078565683a90… (all of the seat's roots in one cut). By AI agents, Wed Nov 11 2026. No macro, syntax, notation, axiom, sorry.
-/
import Derived.Test.YtilmlmncoghpfaaDoorChecked
import GoSem.Claim
import GoSem.ClaimJoined
import GoSem.ClaimMapViews
import Derived.JoinedTies
import Derived.KernelRfl
namespace Go.Proofs.YtilmlmncoghpfaaDoor
/- THE CELL 'sum', in the pinned program and in every row, IS THE sha256 OF THE DUMP (.gsa) THAT YtilmlmncoghpfaaDoorProg.lean LOADS. Nothing in Lean hashes anything: it is a label: what it is worth is what the hold of that sum in a sandbox is worth. -/
noncomputable def Tryd.pinned : Pinned := { name := "ytilmlmncoghpfaadoor", sum := "459e078565683a908c0e2904fe1d93e1b4654cd43289b520e85083e932d864cc", checked := Tryd.checked }
namespace Rows
def none {H : Type} : Left H := { results := [], args := [] }

/- WHAT THE LISTED PACKAGE-LEVEL VARIABLES READ AS WHEN THE CALL BEGINS. Each datum BY PROGRAM (the guide's laid-datum.mjs) off the statement by which the dump's own 'gosem.cut.vars' lays the variable. In a bare row this is a premise. The card (YtilmlmncoghpfaaDoorCards.lean) ties it to the program's text. -/
def laid_augur_api_ErrCode {H : Type} : DataW H := .iface "*errors.errorString" (.ptr (.agg [.lit (.string [97, 117, 103, 117, 114, 58, 32, 99, 111, 100, 101])]))

/-- 'augurlaw16.LiveWays': WHATEVER THE INPUT: true; the input reads as it did. -/
def liveWaysSpec : ChangeSpec := { name := "liveWays", fn := fun _ => fun
  | [d] => { results := [.lit (.bool true)], args := [d] }
  | _ => none }
def liveWaysRow : OpenClaim := { program := "ytilmlmncoghpfaadoor", sum := "459e078565683a908c0e2904fe1d93e1b4654cd43289b520e85083e932d864cc", func := "augur/augurlaw16.LiveWays", spec := "liveWays", unfollowed := true, recurses := true, named := ["augur/api.ErrCode"], loops := true, apart := false, laid := [("augur/api.ErrCode", laid_augur_api_ErrCode)] }
def LiveWaysSaid : Prop := liveWaysRow.holds Tryd.pinned (OpenSpec.ofChange liveWaysSpec)

/-- ITS FALSE NEIGHBOUR: 'it returns false'. Refute it at one input. -/
def liveWaysWrong : ChangeSpec := { name := "liveWays", fn := fun _ => fun
  | [d] => { results := [.lit (.bool false)], args := [d] }
  | _ => none }
def LiveWaysWrongFalsely : Prop := liveWaysRow.holds Tryd.pinned (OpenSpec.ofChange liveWaysWrong)

/-- 'augurlaw16.LiveHolds': WHATEVER THE INPUT: true; the input reads as it did. -/
def liveHoldsSpec : ChangeSpec := { name := "liveHolds", fn := fun _ => fun
  | [d] => { results := [.lit (.bool true)], args := [d] }
  | _ => none }
def liveHoldsRow : OpenClaim := { program := "ytilmlmncoghpfaadoor", sum := "459e078565683a908c0e2904fe1d93e1b4654cd43289b520e85083e932d864cc", func := "augur/augurlaw16.LiveHolds", spec := "liveHolds", unfollowed := true, recurses := true, named := ["augur/api.ErrCode"], loops := true, apart := false, laid := [("augur/api.ErrCode", laid_augur_api_ErrCode)] }
def LiveHoldsSaid : Prop := liveHoldsRow.holds Tryd.pinned (OpenSpec.ofChange liveHoldsSpec)

/-- ITS FALSE NEIGHBOUR: 'it returns false'. Refute it at one input. -/
def liveHoldsWrong : ChangeSpec := { name := "liveHolds", fn := fun _ => fun
  | [d] => { results := [.lit (.bool false)], args := [d] }
  | _ => none }
def LiveHoldsWrongFalsely : Prop := liveHoldsRow.holds Tryd.pinned (OpenSpec.ofChange liveHoldsWrong)

/-- 'augurlaw16.LiveMore': WHATEVER THE INPUT: true; the input reads as it did. -/
def liveMoreSpec : ChangeSpec := { name := "liveMore", fn := fun _ => fun
  | [d] => { results := [.lit (.bool true)], args := [d] }
  | _ => none }
def liveMoreRow : OpenClaim := { program := "ytilmlmncoghpfaadoor", sum := "459e078565683a908c0e2904fe1d93e1b4654cd43289b520e85083e932d864cc", func := "augur/augurlaw16.LiveMore", spec := "liveMore", unfollowed := true, recurses := true, named := ["augur/api.ErrCode"], loops := true, apart := false, laid := [("augur/api.ErrCode", laid_augur_api_ErrCode)] }
def LiveMoreSaid : Prop := liveMoreRow.holds Tryd.pinned (OpenSpec.ofChange liveMoreSpec)

/-- ITS FALSE NEIGHBOUR: 'it returns false'. Refute it at one input. -/
def liveMoreWrong : ChangeSpec := { name := "liveMore", fn := fun _ => fun
  | [d] => { results := [.lit (.bool false)], args := [d] }
  | _ => none }
def LiveMoreWrongFalsely : Prop := liveMoreRow.holds Tryd.pinned (OpenSpec.ofChange liveMoreWrong)

/- THE SECOND FORM. 'bulk': how many values and letters a reading holds, each counted each time it is reached (what is shared counts as often as it is met; a slice's spare places count too). A statement '..UptoSaid' is the law's where the arguments, and the package variables that the reading takes, are together of bulk at most 1048576: NARROWER than '..Said'. Prove '..Said' where nothing that the law and all that it calls make is longer than what came in: it says more and counts as full. Else prove '..UptoSaid'. A law counts once. -/
mutual
def uptoBulk {H : Type} : DataW H → Nat
  | .lit (.string bytes) => bytes.length + 1
  | .lit _ => 1
  | .nil => 1
  | .ptr d => uptoBulk d + 1
  | .slice elems spare => uptoBulkAll elems + uptoBulkAll spare + 1
  | .agg parts => uptoBulkAll parts + 1
  | .iface _ d => uptoBulk d + 1
  | .map entries => uptoBulkEntries entries + 1
  | .held _ => 1
def uptoBulkAll {H : Type} : List (DataW H) → Nat
  | [] => 0
  | d :: r => uptoBulk d + uptoBulkAll r
def uptoBulkEntries {H : Type} : List (Lit × DataW H) → Nat
  | [] => 0
  | x :: r => uptoBulkEntry x + uptoBulkEntries r
def uptoBulkEntry {H : Type} : Lit × DataW H → Nat
  | (.string bytes, d) => bytes.length + uptoBulk d + 1
  | (_, d) => uptoBulk d + 1
 end
def uptoSmall : (H : Type) → List (DataW H) → Bool := fun _ ds => decide (uptoBulkAll ds ≤ 1048576)
def OpenSpec.upto (s : _root_.Go.ChangeSpec) : _root_.Go.OpenSpec := { _root_.Go.OpenSpec.ofChange s with cond := some uptoSmall }

/-- 'augurlaw16.LiveWays', WHERE WHAT IT READS IS OF BULK AT MOST 1048576: true; the input reads as it did. -/
def liveWaysUptoRow : OpenClaim := { program := "ytilmlmncoghpfaadoor", sum := "459e078565683a908c0e2904fe1d93e1b4654cd43289b520e85083e932d864cc", func := "augur/augurlaw16.LiveWays", spec := "liveWays", unfollowed := true, recurses := true, named := ["augur/api.ErrCode"], loops := true, apart := false, laid := [("augur/api.ErrCode", laid_augur_api_ErrCode)], narrowed := true }
def LiveWaysUptoSaid : Prop := liveWaysUptoRow.holds Tryd.pinned (OpenSpec.upto liveWaysSpec)

/-- 'augurlaw16.LiveHolds', WHERE WHAT IT READS IS OF BULK AT MOST 1048576: true; the input reads as it did. -/
def liveHoldsUptoRow : OpenClaim := { program := "ytilmlmncoghpfaadoor", sum := "459e078565683a908c0e2904fe1d93e1b4654cd43289b520e85083e932d864cc", func := "augur/augurlaw16.LiveHolds", spec := "liveHolds", unfollowed := true, recurses := true, named := ["augur/api.ErrCode"], loops := true, apart := false, laid := [("augur/api.ErrCode", laid_augur_api_ErrCode)], narrowed := true }
def LiveHoldsUptoSaid : Prop := liveHoldsUptoRow.holds Tryd.pinned (OpenSpec.upto liveHoldsSpec)

/-- 'augurlaw16.LiveMore', WHERE WHAT IT READS IS OF BULK AT MOST 1048576: true; the input reads as it did. -/
def liveMoreUptoRow : OpenClaim := { program := "ytilmlmncoghpfaadoor", sum := "459e078565683a908c0e2904fe1d93e1b4654cd43289b520e85083e932d864cc", func := "augur/augurlaw16.LiveMore", spec := "liveMore", unfollowed := true, recurses := true, named := ["augur/api.ErrCode"], loops := true, apart := false, laid := [("augur/api.ErrCode", laid_augur_api_ErrCode)], narrowed := true }
def LiveMoreUptoSaid : Prop := liveMoreUptoRow.holds Tryd.pinned (OpenSpec.upto liveMoreSpec)

end Rows
end Go.Proofs.YtilmlmncoghpfaaDoor
