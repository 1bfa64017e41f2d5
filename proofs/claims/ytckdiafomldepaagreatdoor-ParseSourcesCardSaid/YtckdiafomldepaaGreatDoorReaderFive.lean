/- The facts of the program's functions, and the contracts of its lexer and parser; conditions stand in each contract. -/
import Derived.Test.YtckdiafomldepaaGreatDoorAnswerTwo
import Derived.Test.YtckdiafomldepaaGreatDoorLikesOne
import Derived.Test.YtckdiafomldepaaGreatDoorPiecesOne
set_option linter.all false
set_option linter.unusedVariables false
set_option linter.unusedSimpArgs false
set_option linter.unusedSectionVars false

/- ParseSources, ParseParts: the program reads every text as the reference does. -/
namespace Go.Aug
open Go.Proofs
set_option maxRecDepth 100000
set_option linter.unusedSimpArgs false
attribute [local irreducible] hid andK letA onSome onVar onArr arrOnly onInt onBool onTup idxA ldV ldD addO ofPart appTo fillL slA srcK nilQ retW gif sgd sguard svc sops sdops sagain aopO aLoad aStore aBin aUn aConv aLen aIndexAddr aIndex aIndexAddrS aIndexS aSlice aAppend aBuild aBuildSlice aMakeSlice aField aFieldOf aCallOp deepK deepL frzM putE newK newV growV ACall roundQ thenQ inBlockQ sret cnd szs nilC aLookup aMapUpdate aMakeMap
attribute [local go_sem] Int.natCast_zero
set_option maxHeartbeats 2000000 in
theorem parseSources_ok {eb : EbG} [Envs eb] [OnAll eb] (s : ByteArray) (H : Heap) (K : A → Heap → Prop) (hK : K (.d (.bool true)) H) : ACall Tryz.prog (seatV eb) 3 [.d (.str s)] H K := by
 have hsm := rtext_srcs s
 have hto := rsource_told s
 have hps := fun H => parseS_ok (eb := eb) H s
 have hqs := fun H => source_ok (eb := eb) H s
 rw [show rsource (rlex s).1 (rlex s).2 = rpS s from rfl] at hto hqs
 rw [show rtext s = rpS s from rfl] at hsm
 generalize rpS s = x at hsm hto hps hqs
 obtain ⟨is, e⟩ := x
 simp only at hsm hto
 refine ACall.hp_start ?_
 refine ACall.by mixed fn3 (by simp) ?_
 conv in s3 => cbv
 refine svc_start ?_
 simp -dsimp only [go_sem, gS]
 refine alive02_ok _ _ ?_
 simp -dsimp only [go_sem, gS]
 refine hps _ _ ?_
 simp -dsimp only [go_sem, gS]
 refine hqs _ _ ?_
 simp -dsimp only [go_sem, gS]
 refine sameItems_self is (by have := hsm.len; omega) hsm.small _ _ ?_
 simp -dsimp only [go_sem, gS]
 refine numD_ok e (le4 hto) _ _ ?_
 simp -dsimp only [go_sem, gS, decide_true]
 exact retW_is hK
end Go.Aug
