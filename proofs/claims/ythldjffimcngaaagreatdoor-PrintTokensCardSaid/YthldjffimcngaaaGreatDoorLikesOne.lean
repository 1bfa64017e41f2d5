/- The contracts of comparisons of a thing with itself; conditions stand in each contract. -/
import Derived.Test.YthldjffimcngaaaGreatDoorReaderFour
import Derived.Test.YthldjffimcngaaaGreatDoorGrammarOne
set_option linter.all false
set_option linter.unusedVariables false
set_option linter.unusedSimpArgs false
set_option linter.unusedSectionVars false

/- Walks of SmA. -/
namespace Go.Aug
open Go.Proofs
set_option maxRecDepth 100000
set_option linter.unusedSimpArgs false
attribute [local irreducible] hid andK letA onSome onVar onArr arrOnly onInt onBool onTup idxA ldV ldD addO ofPart appTo fillL slA srcK nilQ retW gif sgd sguard svc sops sdops sagain aopO aLoad aStore aBin aUn aConv aLen aIndexAddr aIndex aIndexAddrS aIndexS aSlice aAppend aBuild aBuildSlice aMakeSlice aField aFieldOf aCallOp deepK deepL frzM putE newK newV growV ACall roundQ thenQ inBlockQ sret cnd szs nilC onRow aLookup aMapUpdate aMakeMap
attribute [local go_sem] Int.natCast_zero

end Go.Aug
