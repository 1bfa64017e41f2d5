/- The contracts of the reference's clauses; conditions stand in each contract. -/
import Derived.Test.YtejfagblpbmokaaDoorFlatOne
import Derived.Test.YtejfagblpbmokaaDoorAugNine
set_option linter.all false
set_option linter.unusedVariables false
set_option linter.unusedSimpArgs false
set_option linter.unusedSectionVars false

/- The reference's flat goals: names and numbers. -/
namespace Go.Aug
open Go.Proofs
set_option maxRecDepth 100000
set_option linter.unusedSimpArgs false
attribute [local irreducible] hid andK letA onSome onVar onArr arrOnly onInt onBool onFunc onTup idxA ldV ldD addO appTo fillL slA srcK nilQ retW gif sgd sguard svc sops sdops sagain aopO aLoad aStore aBin aUn aConv aLen aIndexAddr aIndex aIndexAddrS aIndexS aSlice aAppend aBuild aBuildSlice aMakeSlice aField aFieldOf aCallOp deepK deepL frzM putE newK newV growV ACall roundQ thenQ inBlockQ sret cnd szs nilC onMap onRow aLookup aMapUpdate aMakeMap
attribute [local go_sem] Int.natCast_zero
end Go.Aug

/- The reference's flat goals: numbers. -/
namespace Go.Aug
open Go.Proofs
set_option maxRecDepth 100000
set_option linter.unusedSimpArgs false
attribute [local irreducible] hid andK letA onSome onVar onArr arrOnly onInt onBool onFunc onTup idxA ldV ldD addO appTo fillL slA srcK nilQ retW gif sgd sguard svc sops sdops sagain aopO aLoad aStore aBin aUn aConv aLen aIndexAddr aIndex aIndexAddrS aIndexS aSlice aAppend aBuild aBuildSlice aMakeSlice aField aFieldOf aCallOp deepK deepL frzM putE newK newV growV ACall roundQ thenQ inBlockQ sret cnd szs nilC onMap onRow aLookup aMapUpdate aMakeMap
attribute [local go_sem] Int.natCast_zero
end Go.Aug

/- The reference's flat goals: the row of a number and a term. -/
namespace Go.Aug
open Go.Proofs
set_option maxRecDepth 100000
set_option linter.unusedSimpArgs false
attribute [local irreducible] hid andK letA onSome onVar onArr arrOnly onInt onBool onFunc onTup idxA ldV ldD addO appTo fillL slA srcK nilQ retW gif sgd sguard svc sops sdops sagain aopO aLoad aStore aBin aUn aConv aLen aIndexAddr aIndex aIndexAddrS aIndexS aSlice aAppend aBuild aBuildSlice aMakeSlice aField aFieldOf aCallOp deepK deepL frzM putE newK newV growV ACall roundQ thenQ inBlockQ sret cnd szs nilC onMap onRow aLookup aMapUpdate aMakeMap
attribute [local go_sem] Int.natCast_zero
theorem Tm.nodess_mem {t : Tm} : ∀ {ts : List Tm}, t ∈ ts → t.nodes ≤ Tm.nodess ts
 | _ :: _, .head _ => by simp only [Tm.nodess]; omega
 | _ :: _, .tail _ h => by have := Tm.nodess_mem h; simp only [Tm.nodess]; omega
end Go.Aug

/- The reference's flat goals: places, wholes. -/
namespace Go.Aug
open Go.Proofs
set_option maxRecDepth 100000
set_option linter.unusedSimpArgs false
attribute [local irreducible] hid andK letA onSome onVar onArr arrOnly onInt onBool onFunc onTup idxA ldV ldD addO appTo fillL slA srcK nilQ retW gif sgd sguard svc sops sdops sagain aopO aLoad aStore aBin aUn aConv aLen aIndexAddr aIndex aIndexAddrS aIndexS aSlice aAppend aBuild aBuildSlice aMakeSlice aField aFieldOf aCallOp deepK deepL frzM putE newK newV growV ACall roundQ thenQ inBlockQ sret cnd szs nilC onMap onRow aLookup aMapUpdate aMakeMap
attribute [local go_sem] Int.natCast_zero
end Go.Aug

/- The reference's flat goals: how many names there are. -/
namespace Go.Aug
open Go.Proofs
set_option maxRecDepth 100000
set_option linter.unusedSimpArgs false
end Go.Aug

/- The reference's flat goals: a goal. -/
namespace Go.Aug
open Go.Proofs
set_option maxRecDepth 100000
set_option linter.unusedSimpArgs false
attribute [local irreducible] hid andK letA onSome onVar onArr arrOnly onInt onBool onFunc onTup idxA ldV ldD addO appTo fillL slA srcK nilQ retW gif sgd sguard svc sops sdops sagain aopO aLoad aStore aBin aUn aConv aLen aIndexAddr aIndex aIndexAddrS aIndexS aSlice aAppend aBuild aBuildSlice aMakeSlice aField aFieldOf aCallOp deepK deepL frzM putE newK newV growV ACall roundQ thenQ inBlockQ sret cnd szs nilC onMap onRow aLookup aMapUpdate aMakeMap
attribute [local go_sem] Int.natCast_zero
theorem Gl.nodess_mem {t : Gl} : ∀ {ts : List Gl}, t ∈ ts → t.nodes ≤ Gl.nodess ts
 | _ :: _, .head _ => by simp only [Gl.nodess]; omega
 | _ :: _, .tail _ h => by have := Gl.nodess_mem h; simp only [Gl.nodess]; omega
end Go.Aug

/- The reference's flat goals: Flatten. -/
namespace Go.Aug
open Go.Proofs
set_option maxRecDepth 100000
set_option linter.unusedSimpArgs false
attribute [local irreducible] hid andK letA onSome onVar onArr arrOnly onInt onBool onFunc onTup idxA ldV ldD addO appTo fillL slA srcK nilQ retW gif sgd sguard svc sops sdops sagain aopO aLoad aStore aBin aUn aConv aLen aIndexAddr aIndex aIndexAddrS aIndexS aSlice aAppend aBuild aBuildSlice aMakeSlice aField aFieldOf aCallOp deepK deepL frzM putE newK newV growV ACall roundQ thenQ inBlockQ sret cnd szs nilC onMap onRow aLookup aMapUpdate aMakeMap
attribute [local go_sem] Int.natCast_zero
end Go.Aug
