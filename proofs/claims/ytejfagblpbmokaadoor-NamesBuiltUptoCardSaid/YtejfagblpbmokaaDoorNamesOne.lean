/- The contracts of the reference's names: keys, counts, what is well named, the index; conditions stand in each contract. -/
import Derived.Test.YtejfagblpbmokaaDoorParserFour
set_option linter.all false
set_option linter.unusedVariables false
set_option linter.unusedSimpArgs false
set_option linter.unusedSectionVars false

/- The layer of names: what an index is; the reference's small functions. -/
namespace Go.Aug
open Go.Proofs
set_option maxRecDepth 100000
set_option linter.unusedSimpArgs false
attribute [local irreducible] hid andK letA onSome onVar onArr arrOnly onInt onBool onFunc onTup idxA ldV ldD addO appTo fillL slA srcK nilQ retW gif sgd sguard svc sops sdops sagain aopO aLoad aStore aBin aUn aConv aLen aIndexAddr aIndex aIndexAddrS aIndexS aSlice aAppend aBuild aBuildSlice aMakeSlice aField aFieldOf aCallOp deepK deepL frzM putE newK newV growV ACall roundQ thenQ inBlockQ sret cnd szs nilC onMap onRow aLookup aMapUpdate aMakeMap
attribute [local go_sem] Int.natCast_zero
structure Ky where
 name : ByteArray
 ar : Int
 deriving DecidableEq, Inhabited
def Ky.cs (k : Ky) : List D := [.str k.name, .int .i64 k.ar]
def Ky.d (k : Ky) : D := .agg k.cs
def Ky.eqb (a b : Ky) : Bool := decide (a.name = b.name) && decide (a.ar = b.ar)
theorem Ky.eqb_iff (a b : Ky) : Ky.eqb a b = true ↔ a = b := by
 cases a; cases b; simp [Ky.eqb]
theorem list_at {α : Type} {l : List α} {k : Nat} (h : k < l.length) : ∃ x, l[k]? = some x := ⟨l[k], by simp [h]⟩
theorem drop_at {α : Type} {l : List α} {k : Nat} {x : α} (h : l[k]? = some x) : l.drop k = x :: l.drop (k + 1) := by
 obtain ⟨hk, rfl⟩ := List.getElem?_eq_some_iff.1 h
 exact List.drop_eq_getElem_cons hk
theorem drop_end {α : Type} {l : List α} {k : Nat} (h : l.length ≤ k) : l.drop k = [] := List.drop_eq_nil_of_le h
theorem It.opn (it : It) : ∃ x1 x2 x3 x4 x5 x6 x7 x8 x9 x10 x11 x12, it.body.cs = [x1, x2, x3, x4, x5, x6, x7, x8, x9, x10, x11, x12] ∧ it.d = .agg [.int .i64 it.kind, .str it.name, .slice (it.vars.map .str), .slice (it.ctors.map Ct.d), .slice (it.types.map Ty.d), .slice (it.ways.map .bool), .int .i64 it.det, .slice (it.args.map Tm.d), x1, x2, x3, x4, x5, x6, x7, x8, x9, x10, x11, x12] := by
 obtain ⟨x1, x2, x3, x4, x5, x6, x7, x8, x9, x10, x11, x12, h⟩ := it.body.opn
 exact ⟨_, _, _, _, _, _, _, _, _, _, _, _, h, by simp [It.d, It.cs, h]⟩
def sameWays : List Bool → List Bool → Bool
 | [], [] => true
 | a :: l, b :: m => (a == b) && sameWays l m
 | _, _ => false
theorem sameWays_iff : ∀ l m : List Bool, sameWays l m = true ↔ l = m
 | [], [] => by simp [sameWays]
 | a :: l, b :: m => by simp [sameWays, sameWays_iff l m]
 | [], _ :: _ => by simp [sameWays]
 | _ :: _, [] => by simp [sameWays]
def keyOf (it : It) : Ky := if it.kind = 2 then ⟨it.name, it.types.length⟩ else if it.kind = 3 then ⟨it.name, it.ways.length⟩ else ⟨it.name, it.args.length⟩
end Go.Aug

/- The layer of names: how often things stand in a source. -/
namespace Go.Aug
open Go.Proofs
set_option maxRecDepth 100000
set_option linter.unusedSimpArgs false
attribute [local irreducible] hid andK letA onSome onVar onArr arrOnly onInt onBool onFunc onTup idxA ldV ldD addO appTo fillL slA srcK nilQ retW gif sgd sguard svc sops sdops sagain aopO aLoad aStore aBin aUn aConv aLen aIndexAddr aIndex aIndexAddrS aIndexS aSlice aAppend aBuild aBuildSlice aMakeSlice aField aFieldOf aCallOp deepK deepL frzM putE newK newV growV ACall roundQ thenQ inBlockQ sret cnd szs nilC onMap onRow aLookup aMapUpdate aMakeMap
attribute [local go_sem] Int.natCast_zero
def isOf (kind : Int) (k : Ky) (it : It) : Bool := decide (it.kind = kind) && Ky.eqb (keyOf it) k
def rcount (l : List It) (kind : Int) (k : Ky) : Nat := l.countP (isOf kind k)
def tyOf (name : ByteArray) (it : It) : Bool := decide (it.kind = 1) && decide (it.name = name)
def tyVars (name : ByteArray) (vars : Int) (it : It) : Bool := tyOf name it && decide ((it.vars.length : Int) = vars)
def ctOf (q : Ky) (c : Ct) : Bool := decide (c.name = q.name) && decide ((c.args.length : Int) = q.ar)
def rctors (l : List It) (q : Ky) : Nat := (l.map fun it => if it.kind = 1 then it.ctors.countP (ctOf q) else 0).sum
theorem rctors_cons (it : It) (l : List It) (q : Ky) : rctors (it :: l) q = (if it.kind = 1 then it.ctors.countP (ctOf q) else 0) + rctors l q := by simp [rctors]
end Go.Aug
