/- The contracts of the reference's clauses; conditions stand in each contract. -/
import Derived.Test.YtejfagblpbmokaaDoorFlatOne
import Derived.Test.YtejfagblpbmokaaDoorAugEight
set_option linter.all false
set_option linter.unusedVariables false
set_option linter.unusedSimpArgs false
set_option linter.unusedSectionVars false

/- The reference's flat goals: names and numbers. -/
namespace Go.Aug
open Go.Proofs
set_option maxRecDepth 100000
set_option linter.unusedSimpArgs false
attribute [local irreducible] hid andK letA onSome onVar onArr arrOnly onInt onBool onFunc onTup idxA ldV ldD addO appTo fillL slA srcK nilQ retW gif sgd sguard svc sops sdops sagain aopO aLoad aStore aBin aUn aConv aLen aIndexAddr aIndex aIndexAddrS aIndexS aSlice aAppend aBuild aBuildSlice aMakeSlice aField aFieldOf aCallOp deepK deepL frzM putE newK newV growV ACall roundQ thenQ inBlockQ sret cnd szs nilC onMap onRow aLookup aMapUpdate aMakeMap
attribute [local go_sem] Int.natCast_zero
end Go.Aug

/- The reference's flat goals: numbers. -/
namespace Go.Aug
open Go.Proofs
set_option maxRecDepth 100000
set_option linter.unusedSimpArgs false
attribute [local irreducible] hid andK letA onSome onVar onArr arrOnly onInt onBool onFunc onTup idxA ldV ldD addO appTo fillL slA srcK nilQ retW gif sgd sguard svc sops sdops sagain aopO aLoad aStore aBin aUn aConv aLen aIndexAddr aIndex aIndexAddrS aIndexS aSlice aAppend aBuild aBuildSlice aMakeSlice aField aFieldOf aCallOp deepK deepL frzM putE newK newV growV ACall roundQ thenQ inBlockQ sret cnd szs nilC onMap onRow aLookup aMapUpdate aMakeMap
attribute [local go_sem] Int.natCast_zero
end Go.Aug

/- The reference's flat goals: the row of a number and a term. -/
namespace Go.Aug
open Go.Proofs
set_option maxRecDepth 100000
set_option linter.unusedSimpArgs false
attribute [local irreducible] hid andK letA onSome onVar onArr arrOnly onInt onBool onFunc onTup idxA ldV ldD addO appTo fillL slA srcK nilQ retW gif sgd sguard svc sops sdops sagain aopO aLoad aStore aBin aUn aConv aLen aIndexAddr aIndex aIndexAddrS aIndexS aSlice aAppend aBuild aBuildSlice aMakeSlice aField aFieldOf aCallOp deepK deepL frzM putE newK newV growV ACall roundQ thenQ inBlockQ sret cnd szs nilC onMap onRow aLookup aMapUpdate aMakeMap
attribute [local go_sem] Int.natCast_zero
theorem Tm.nodess_mem {t : Tm} : ∀ {ts : List Tm}, t ∈ ts → t.nodes ≤ Tm.nodess ts
 | _ :: _, .head _ => by simp only [Tm.nodess]; omega
 | _ :: _, .tail _ h => by have := Tm.nodess_mem h; simp only [Tm.nodess]; omega
end Go.Aug

/- The reference's flat goals: places, wholes. -/
namespace Go.Aug
open Go.Proofs
set_option maxRecDepth 100000
set_option linter.unusedSimpArgs false
attribute [local irreducible] hid andK letA onSome onVar onArr arrOnly onInt onBool onFunc onTup idxA ldV ldD addO appTo fillL slA srcK nilQ retW gif sgd sguard svc sops sdops sagain aopO aLoad aStore aBin aUn aConv aLen aIndexAddr aIndex aIndexAddrS aIndexS aSlice aAppend aBuild aBuildSlice aMakeSlice aField aFieldOf aCallOp deepK deepL frzM putE newK newV growV ACall roundQ thenQ inBlockQ sret cnd szs nilC onMap onRow aLookup aMapUpdate aMakeMap
attribute [local go_sem] Int.natCast_zero
end Go.Aug

/- The reference's flat goals: how many names there are. -/
namespace Go.Aug
open Go.Proofs
set_option maxRecDepth 100000
set_option linter.unusedSimpArgs false
end Go.Aug

/- The reference's flat goals: a goal. -/
namespace Go.Aug
open Go.Proofs
set_option maxRecDepth 100000
set_option linter.unusedSimpArgs false
attribute [local irreducible] hid andK letA onSome onVar onArr arrOnly onInt onBool onFunc onTup idxA ldV ldD addO appTo fillL slA srcK nilQ retW gif sgd sguard svc sops sdops sagain aopO aLoad aStore aBin aUn aConv aLen aIndexAddr aIndex aIndexAddrS aIndexS aSlice aAppend aBuild aBuildSlice aMakeSlice aField aFieldOf aCallOp deepK deepL frzM putE newK newV growV ACall roundQ thenQ inBlockQ sret cnd szs nilC onMap onRow aLookup aMapUpdate aMakeMap
attribute [local go_sem] Int.natCast_zero
theorem Gl.nodess_mem {t : Gl} : ∀ {ts : List Gl}, t ∈ ts → t.nodes ≤ Gl.nodess ts
 | _ :: _, .head _ => by simp only [Gl.nodess]; omega
 | _ :: _, .tail _ h => by have := Gl.nodess_mem h; simp only [Gl.nodess]; omega
end Go.Aug

/- The reference's flat goals: Flatten. -/
namespace Go.Aug
open Nat renaming reduceBEq → zA, reduceLT → zB, reduceAdd → zC, reduceSub → zD, reduceMul → zE, reduceLeDiff → zF
open Int renaming reduceLE → zG
open Go.Proofs
set_option maxRecDepth 100000
set_option linter.unusedSimpArgs false
attribute [local irreducible] hid andK letA onSome onVar onArr arrOnly onInt onBool onFunc onTup idxA ldV ldD addO appTo fillL slA srcK nilQ retW gif sgd sguard svc sops sdops sagain aopO aLoad aStore aBin aUn aConv aLen aIndexAddr aIndex aIndexAddrS aIndexS aSlice aAppend aBuild aBuildSlice aMakeSlice aField aFieldOf aCallOp deepK deepL frzM putE newK newV growV ACall roundQ thenQ inBlockQ sret cnd szs nilC onMap onRow aLookup aMapUpdate aMakeMap
attribute [local go_sem] Int.natCast_zero
set_option maxHeartbeats 2000000 in
theorem pred05_ok {eb : EbG} (x : Ix) (hl : x.preds.length ≤ 1048576) (q : Ky) (H : Heap) (K : A → Heap → Prop) (hK : K (.tup [.d ((pfind x.preds q).getD kyP0).d, .d (.bool (pfind x.preds q).isSome)]) H) :
  ACall Tryd.prog (seatV eb) 33 [.d x.d, .d q.d] H K := by
 obtain ⟨ts, cs, l⟩ := x
 obtain ⟨qn, qa⟩ := q
 simp only at hl hK
 refine ACall.hp_start ?_
 refine ACall.by mixed fn33 (by simp) ?_
 conv in s33 => cbv
 refine svc_start ?_
 simp -dsimp (maxDischargeDepth := 9) only [go_sem, zA, zB, zC, zD, zE, zF, zG, gS, Ix.d, Ix.cs, Ky.d, Ky.cs]
 refine newK_hp (fun b2 f2 => ?_)
 simp only [off_cons, off_nil] at f2
 simp -dsimp (maxDischargeDepth := 9) only [go_sem, zA, zB, zC, zD, zE, zF, zG, gS, f2]
 refine newK_hp (fun b3 f3 => ?_)
 simp only [off_cons, off_nil] at f3
 simp -dsimp (maxDischargeDepth := 9) only [go_sem, zA, zB, zC, zD, zE, zF, zG, gS, f2, f3]
 refine newK_hp (fun b4 f4 => ?_)
 simp only [off_cons, off_nil] at f4
 simp -dsimp (maxDischargeDepth := 9) only [go_sem, zA, zB, zC, zD, zE, zF, zG, gS, f2, f3, f4]
 refine svc_loop (X := Nat) (fun j => [(3, .ref b3 0), (4, .ref b4 0), (9, .d (.slice (l.map Pr.d))), (10, .d (.int .i64 l.length)), (11, .d (.int .i64 j))])
  (fun j G => G = hp H [(b3, .var [.d (.str qn), .d (.int .i64 qa)]), (b4, .var [.d (.str ⟨#[]⟩), .d (.int .i64 0), .nils, .nils, .nils])] ∧ j ≤ l.length ∧ pfind l ⟨qn, qa⟩ = pfind (l.drop j) ⟨qn, qa⟩) (fun j => l.length - j) 0 _ ⟨rfl, Nat.zero_le _, rfl⟩ (by simp -dsimp (maxDischargeDepth := 9) only [go_sem, zA, zB, zC, zD, zE, zF, zG, gS]) (leH_hp (by simp only [hpS, eq_self, implies_true, f2, f3, f4]) (by simp only [hpS, eq_self, implies_true, f2, f3, f4])) ?_
 rintro j G ⟨hG, hj, hs⟩
 subst hG
 simp -dsimp (maxDischargeDepth := 9) only [go_sem, zA, zB, zC, zD, zE, zF, zG, gS]
 refine gif_split (fun q1 => ?_) (fun q1 => ?_)
 ·have q1' : j < l.length := by have := of_decide_eq_true q1; omega
  obtain ⟨⟨⟨kn, ka⟩, pts, pms, pcs⟩, hx⟩ := list_at q1'
  have hw := wrapN (k := j) (by omega)
  rw [drop_at hx] at hs
  simp -dsimp (maxDischargeDepth := 9) only [go_sem, zA, zB, zC, zD, zE, zF, zG, gS, q1, hx, f3, f4, Pr.d, Pr.cs]
  refine newK_hp (fun b7 f7 => ?_)
  simp only [off_cons, off_nil] at f7
  simp -dsimp (maxDischargeDepth := 9) only [go_sem, zA, zB, zC, zD, zE, zF, zG, gS, f3, f4, f7]
  refine gif_split (fun q2 => ?_) (fun q2 => ?_)
  ·have hb : Ky.eqb ⟨kn, ka⟩ ⟨qn, qa⟩ = true := by simpa [Ky.eqb] using q2
   simp only [pfind, List.find?_cons, hb] at hs
   simp only [pfind, hs, Option.getD_some, Option.isSome_some, Pr.d, Pr.cs] at hK
   simp -dsimp (maxDischargeDepth := 9) only [go_sem, zA, zB, zC, zD, zE, zF, zG, gS, q2, f3, f4, f7]
   refine retW_tup [true, true] ?_
   simp -dsimp (maxDischargeDepth := 9) only [go_sem, zA, zB, zC, zD, zE, zF, zG, gS, frzM]
   exact retW_drop (G := H) (leH_hp0 (by simp only [hpS, eq_self, implies_true, f3, f4, f7])) (retW_is hK)
  ·have hb : Ky.eqb ⟨kn, ka⟩ ⟨qn, qa⟩ = false := by simpa [Ky.eqb] using q2
   simp only [pfind, List.find?_cons, hb] at hs
   simp -dsimp (maxDischargeDepth := 9) only [go_sem, zA, zB, zC, zD, zE, zF, zG, gS, q2, f3, f4, f7, hw]
   refine roundQ_next (j + 1) _ ⟨rfl, q1', by simp only [pfind]; exact hs⟩ (by omega) (by simp -dsimp (maxDischargeDepth := 9) only [go_sem, zA, zB, zC, zD, zE, zF, zG, gS]) (leH_hp (by simp only [hpS, eq_self, implies_true, f3, f4, f7]) (by simp only [hpS, eq_self, implies_true, f3, f4, f7]))
 ·rw [drop_end (by have := of_decide_eq_false q1; omega)] at hs
  simp only [pfind, List.find?_nil] at hs
  simp only [pfind, hs, Option.getD_none, Option.isSome_none, kyP0, Pr.d, Pr.cs, List.map_nil] at hK
  simp -dsimp (maxDischargeDepth := 9) only [go_sem, zA, zB, zC, zD, zE, zF, zG, gS, q1, f3, f4]
  refine retW_tup [true, true] ?_
  simp -dsimp (maxDischargeDepth := 9) only [go_sem, zA, zB, zC, zD, zE, zF, zG, gS, frzM]
  exact retW_drop (G := H) (leH_hp0 (by simp only [hpS, eq_self, implies_true, f3, f4])) (retW_is hK)
end Go.Aug
