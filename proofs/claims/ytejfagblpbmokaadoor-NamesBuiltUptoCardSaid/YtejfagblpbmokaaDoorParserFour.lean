/- The facts of the program's functions, and the contracts of the reference's tokens and parser; conditions stand in each contract. -/
import Derived.Test.YtejfagblpbmokaaDoorRunTwo
import Derived.Test.YtejfagblpbmokaaDoorParserOne
import Derived.Test.YtejfagblpbmokaaDoorAugFive
import Derived.Test.YtejfagblpbmokaaDoorParserThree
set_option linter.all false
set_option linter.unusedVariables false
set_option linter.unusedSimpArgs false
set_option linter.unusedSectionVars false

/- Closed runs: the table of functions in short (printed by mktab.py). -/
namespace Go.Aug
open Go.Proofs
set_option maxRecDepth 100000
end Go.Aug

/- slices.Clone. -/
namespace Go.Aug
open Nat renaming reduceBEq → zA, reduceLT → zB, reduceAdd → zC, reduceSub → zD, reduceMul → zE, reduceLeDiff → zF
open Int renaming reduceLE → zG
open Go.Proofs
set_option maxRecDepth 100000
set_option linter.unusedSimpArgs false
attribute [local irreducible] hid andK letA onSome onVar onArr arrOnly onInt onBool onFunc onTup idxA ldV ldD addO appTo fillL slA srcK nilQ retW gif sgd sguard svc sops sdops sagain aopO aLoad aStore aBin aUn aConv aLen aIndexAddr aIndex aIndexAddrS aIndexS aSlice aAppend aBuild aBuildSlice aMakeSlice aField aFieldOf aCallOp deepK deepL frzM putE newK newV growV ACall roundQ thenQ inBlockQ sret cnd szs nilC onMap onRow aLookup aMapUpdate aMakeMap
attribute [local go_sem] Int.natCast_zero
theorem clone99 {eb : EbG} (H : Heap) (es : List D) (h1 : es.length ≤ 1048576) (h2 : szs 1 es) (K : A → Heap → Prop) (hK : K (.d (.slice es)) H) : ACall Tryd.prog (seatV eb) 99 [.d (.slice es)] H K := by
 refine ACall.hp_start ?_
 refine ACall.by mixed fn99 (by simp) ?_
 conv in s99 => cbv
 refine svc_start ?_
 simp -dsimp (maxDischargeDepth := 9) only [go_sem, zA, zB, zC, zD, zE, zF, zG, gS]
 refine nilQ_intro ?_ (fun h => ?_)
 ·simp -dsimp (maxDischargeDepth := 9) only [go_sem, zA, zB, zC, zD, zE, zF, zG, gS]
  refine newV_hp (fun b5 v5 f5 w5 => ?_)
  simp only [off_cons, off_nil] at f5
  simp -dsimp (maxDischargeDepth := 9) only [go_sem, zA, zB, zC, zD, zE, zF, zG, gS, f5, h2]
  refine andK_split (by omega) ?_
  refine growV_hp (b0 := b5) (by simp only [hpS, eq_self, implies_true, f5]) (by simp only [hpS, eq_self, implies_true, f5]) (fun b7 v7 f7 w7 => ?_)
  simp only [delL_cons, delL_nil, eqn_self, cnd_true, cnd_false, off_cons, off_nil, f5] at f7
  simp -dsimp (maxDischargeDepth := 9) only [go_sem, zA, zB, zC, zD, zE, zF, zG, gS, f5, f7]
  refine retW_deep ?_
  simp -dsimp (maxDischargeDepth := 9) only [go_sem, zA, zB, zC, zD, zE, zF, zG, gS, f5, f7]
  exact retW_drop (G := H) (leH_hp0 (by simp only [hpS, eq_self, implies_true, f5, f7])) (retW_is hK)
 ·subst h
  simp -dsimp (maxDischargeDepth := 9) only [go_sem, zA, zB, zC, zD, zE, zF, zG, gS]
  refine retW_deep ?_
  simp -dsimp (maxDischargeDepth := 9) only [go_sem, zA, zB, zC, zD, zE, zF, zG, gS]
  exact retW_drop (G := H) (leH_hp0 (by simp only [hpS, eq_self, implies_true, ])) (retW_is hK)
theorem clone133 {eb : EbG} (H : Heap) (es : List D) (h1 : es.length ≤ 1048576) (h2 : szs 1 es) (K : A → Heap → Prop) (hK : K (.d (.slice es)) H) : ACall Tryd.prog (seatV eb) 133 [.d (.slice es)] H K := by
 refine ACall.hp_start ?_
 refine ACall.by mixed fn133 (by simp) ?_
 conv in s133 => cbv
 refine svc_start ?_
 simp -dsimp (maxDischargeDepth := 9) only [go_sem, zA, zB, zC, zD, zE, zF, zG, gS]
 refine nilQ_intro ?_ (fun h => ?_)
 ·simp -dsimp (maxDischargeDepth := 9) only [go_sem, zA, zB, zC, zD, zE, zF, zG, gS]
  refine newV_hp (fun b5 v5 f5 w5 => ?_)
  simp only [off_cons, off_nil] at f5
  simp -dsimp (maxDischargeDepth := 9) only [go_sem, zA, zB, zC, zD, zE, zF, zG, gS, f5, h2]
  refine andK_split (by omega) ?_
  refine growV_hp (b0 := b5) (by simp only [hpS, eq_self, implies_true, f5]) (by simp only [hpS, eq_self, implies_true, f5]) (fun b7 v7 f7 w7 => ?_)
  simp only [delL_cons, delL_nil, eqn_self, cnd_true, cnd_false, off_cons, off_nil, f5] at f7
  simp -dsimp (maxDischargeDepth := 9) only [go_sem, zA, zB, zC, zD, zE, zF, zG, gS, f5, f7]
  refine retW_deep ?_
  simp -dsimp (maxDischargeDepth := 9) only [go_sem, zA, zB, zC, zD, zE, zF, zG, gS, f5, f7]
  exact retW_drop (G := H) (leH_hp0 (by simp only [hpS, eq_self, implies_true, f5, f7])) (retW_is hK)
 ·subst h
  simp -dsimp (maxDischargeDepth := 9) only [go_sem, zA, zB, zC, zD, zE, zF, zG, gS]
  refine retW_deep ?_
  simp -dsimp (maxDischargeDepth := 9) only [go_sem, zA, zB, zC, zD, zE, zF, zG, gS]
  exact retW_drop (G := H) (leH_hp0 (by simp only [hpS, eq_self, implies_true, ])) (retW_is hK)
theorem clone134 {eb : EbG} (H : Heap) (es : List D) (h1 : es.length ≤ 1048576) (h2 : szs 3 es) (K : A → Heap → Prop) (hK : K (.d (.slice es)) H) : ACall Tryd.prog (seatV eb) 134 [.d (.slice es)] H K := by
 refine ACall.hp_start ?_
 refine ACall.by mixed fn134 (by simp) ?_
 conv in s134 => cbv
 refine svc_start ?_
 simp -dsimp (maxDischargeDepth := 9) only [go_sem, zA, zB, zC, zD, zE, zF, zG, gS]
 refine nilQ_intro ?_ (fun h => ?_)
 ·simp -dsimp (maxDischargeDepth := 9) only [go_sem, zA, zB, zC, zD, zE, zF, zG, gS]
  refine newV_hp (fun b5 v5 f5 w5 => ?_)
  simp only [off_cons, off_nil] at f5
  simp -dsimp (maxDischargeDepth := 9) only [go_sem, zA, zB, zC, zD, zE, zF, zG, gS, f5, h2]
  refine andK_split (by omega) ?_
  refine growV_hp (b0 := b5) (by simp only [hpS, eq_self, implies_true, f5]) (by simp only [hpS, eq_self, implies_true, f5]) (fun b7 v7 f7 w7 => ?_)
  simp only [delL_cons, delL_nil, eqn_self, cnd_true, cnd_false, off_cons, off_nil, f5] at f7
  simp -dsimp (maxDischargeDepth := 9) only [go_sem, zA, zB, zC, zD, zE, zF, zG, gS, f5, f7]
  refine retW_deep ?_
  simp -dsimp (maxDischargeDepth := 9) only [go_sem, zA, zB, zC, zD, zE, zF, zG, gS, f5, f7]
  exact retW_drop (G := H) (leH_hp0 (by simp only [hpS, eq_self, implies_true, f5, f7])) (retW_is hK)
 ·subst h
  simp -dsimp (maxDischargeDepth := 9) only [go_sem, zA, zB, zC, zD, zE, zF, zG, gS]
  refine retW_deep ?_
  simp -dsimp (maxDischargeDepth := 9) only [go_sem, zA, zB, zC, zD, zE, zF, zG, gS]
  exact retW_drop (G := H) (leH_hp0 (by simp only [hpS, eq_self, implies_true, ])) (retW_is hK)
end Go.Aug

/- alive of the layers of names and of flat goals: the examples, reckoned. -/
namespace Go.Aug
open Go.Proofs
set_option maxRecDepth 100000
end Go.Aug
