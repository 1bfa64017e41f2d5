/- The contracts of comparisons of a thing with itself; conditions stand in each contract. -/
import Derived.Test.YtejfagblpbmokaaDoorClausesOne
set_option linter.all false
set_option linter.unusedVariables false
set_option linter.unusedSimpArgs false
set_option linter.unusedSectionVars false

/- The reference's comparisons: of a thing with itself they say yes. -/
namespace Go.Aug
open Nat renaming reduceBEq → zA, reduceLT → zB, reduceAdd → zC, reduceSub → zD, reduceMul → zE, reduceLeDiff → zF
open Int renaming reduceLE → zG
open Go.Proofs
set_option maxRecDepth 100000
set_option linter.unusedSimpArgs false
attribute [local irreducible] hid andK letA onSome onVar onArr arrOnly onInt onBool onFunc onTup idxA ldV ldD addO appTo fillL slA srcK nilQ retW gif sgd sguard svc sops sdops sagain aopO aLoad aStore aBin aUn aConv aLen aIndexAddr aIndex aIndexAddrS aIndexS aSlice aAppend aBuild aBuildSlice aMakeSlice aField aFieldOf aCallOp deepK deepL frzM putE newK newV growV ACall roundQ thenQ inBlockQ sret cnd szs nilC onMap onRow aLookup aMapUpdate aMakeMap
attribute [local go_sem] Int.natCast_zero
theorem sameTerms_row {eb : EbG} (ts : List Tm) (hl : ts.length ≤ 1048576) (h : ∀ t ∈ ts, ∀ (H : Heap) (K : A → Heap → Prop), K (.d (.bool true)) H → ACall Tryd.prog (seatV eb) 136 [.d t.d, .d t.d] H K) (H : Heap) (K : A → Heap → Prop) (hK : K (.d (.bool true)) H) :
  ACall Tryd.prog (seatV eb) 109 [.d (.slice (ts.map Tm.d)), .d (.slice (ts.map Tm.d))] H K := by
 refine ACall.by mixed fn109 (by simp) ?_
 conv in s109 => cbv
 refine svc_start ?_
 simp -dsimp (maxDischargeDepth := 9) only [go_sem, zA, zB, zC, zD, zE, zF, zG, gS, decide_true]
 refine svc_loop (X := Nat) (fun j => [(0, .d (.slice (ts.map Tm.d))), (1, .d (.slice (ts.map Tm.d))), (12, .d (.int .i64 ts.length)), (13, .d (.int .i64 j))]) (fun j G => G = H ∧ j ≤ ts.length) (fun j => ts.length - j) 0 _ ⟨rfl, Nat.zero_le _⟩ (by simp -dsimp (maxDischargeDepth := 9) only [go_sem, zA, zB, zC, zD, zE, zF, zG, gS]) (fun _ _ h => h) ?_
 rintro j G ⟨hG, hj⟩
 subst hG
 simp -dsimp (maxDischargeDepth := 9) only [go_sem, zA, zB, zC, zD, zE, zF, zG, gS]
 refine gif_split (fun q1 => ?_) (fun q1 => ?_)
 ·have q1' : j < ts.length := by have := of_decide_eq_true q1; omega
  obtain ⟨t, hx⟩ := list_at q1'
  have hw := wrapN (k := j) (by omega)
  have ht := h t (List.mem_of_getElem? hx)
  obtain ⟨tk, tn, ti, ta⟩ := t
  simp -dsimp (maxDischargeDepth := 9) only [go_sem, zA, zB, zC, zD, zE, zF, zG, gS, q1, hx, Tm.d, Tm.cs]
  refine ht _ _ ?_
  simp -dsimp (maxDischargeDepth := 9) only [go_sem, zA, zB, zC, zD, zE, zF, zG, gS, hw]
  refine roundQ_next (j + 1) _ ⟨rfl, q1'⟩ (by omega) (by simp -dsimp (maxDischargeDepth := 9) only [go_sem, zA, zB, zC, zD, zE, zF, zG, gS]) (fun _ _ h => h)
 ·simp -dsimp (maxDischargeDepth := 9) only [go_sem, zA, zB, zC, zD, zE, zF, zG, gS, q1]
  exact retW_is hK
theorem sameTypes_row {eb : EbG} (ts : List Ty) (hl : ts.length ≤ 1048576) (h : ∀ t ∈ ts, ∀ (H : Heap) (K : A → Heap → Prop), K (.d (.bool true)) H → ACall Tryd.prog (seatV eb) 68 [.d t.d, .d t.d] H K) (H : Heap) (K : A → Heap → Prop) (hK : K (.d (.bool true)) H) :
  ACall Tryd.prog (seatV eb) 27 [.d (.slice (ts.map Ty.d)), .d (.slice (ts.map Ty.d))] H K := by
 refine ACall.by mixed fn27 (by simp) ?_
 conv in s27 => cbv
 refine svc_start ?_
 simp -dsimp (maxDischargeDepth := 9) only [go_sem, zA, zB, zC, zD, zE, zF, zG, gS, decide_true]
 refine svc_loop (X := Nat) (fun j => [(0, .d (.slice (ts.map Ty.d))), (1, .d (.slice (ts.map Ty.d))), (12, .d (.int .i64 ts.length)), (13, .d (.int .i64 j))]) (fun j G => G = H ∧ j ≤ ts.length) (fun j => ts.length - j) 0 _ ⟨rfl, Nat.zero_le _⟩ (by simp -dsimp (maxDischargeDepth := 9) only [go_sem, zA, zB, zC, zD, zE, zF, zG, gS]) (fun _ _ h => h) ?_
 rintro j G ⟨hG, hj⟩
 subst hG
 simp -dsimp (maxDischargeDepth := 9) only [go_sem, zA, zB, zC, zD, zE, zF, zG, gS]
 refine gif_split (fun q1 => ?_) (fun q1 => ?_)
 ·have q1' : j < ts.length := by have := of_decide_eq_true q1; omega
  obtain ⟨t, hx⟩ := list_at q1'
  have hw := wrapN (k := j) (by omega)
  have ht := h t (List.mem_of_getElem? hx)
  obtain ⟨tv, tn, ta⟩ := t
  simp -dsimp (maxDischargeDepth := 9) only [go_sem, zA, zB, zC, zD, zE, zF, zG, gS, q1, hx, Ty.d, Ty.cs]
  refine ht _ _ ?_
  simp -dsimp (maxDischargeDepth := 9) only [go_sem, zA, zB, zC, zD, zE, zF, zG, gS, hw]
  refine roundQ_next (j + 1) _ ⟨rfl, q1'⟩ (by omega) (by simp -dsimp (maxDischargeDepth := 9) only [go_sem, zA, zB, zC, zD, zE, zF, zG, gS]) (fun _ _ h => h)
 ·simp -dsimp (maxDischargeDepth := 9) only [go_sem, zA, zB, zC, zD, zE, zF, zG, gS, q1]
  exact retW_is hK
mutual
def Ty.nodes : Ty → Nat
 | .mk _ _ xs => 1 + Ty.nodess xs
def Ty.nodess : List Ty → Nat
 | [] => 0
 | t :: ts => t.nodes + Ty.nodess ts
end
theorem Ty.nodess_mem {t : Ty} : ∀ {ts : List Ty}, t ∈ ts → t.nodes ≤ Ty.nodess ts
 | _ :: _, .head _ => by simp only [Ty.nodess]; omega
 | _ :: _, .tail _ h => by have := Ty.nodess_mem h; simp only [Ty.nodess]; omega
theorem sameType_self {eb : EbG} : ∀ (m : Nat) (t : Ty), t.nodes ≤ m → t.small → ∀ (H : Heap) (K : A → Heap → Prop), K (.d (.bool true)) H → ACall Tryd.prog (seatV eb) 68 [.d t.d, .d t.d] H K
 | 0, .mk v n ts, hm, _, _, _, _ => by simp only [Ty.nodes] at hm; omega
 | m + 1, .mk v n ts, hm, hs, H, K, hK => by
  simp only [Ty.nodes] at hm
  refine ACall.hp_start ?_
  refine ACall.by mixed fn68 (by simp) ?_
  conv in s68 => cbv
  refine svc_start ?_
  simp -dsimp (maxDischargeDepth := 9) only [go_sem, zA, zB, zC, zD, zE, zF, zG, gS, Ty.d, Ty.cs, Ty.ds_map]
  refine newK_hp (fun b2 f2 => ?_)
  simp only [off_cons, off_nil] at f2
  simp -dsimp (maxDischargeDepth := 9) only [go_sem, zA, zB, zC, zD, zE, zF, zG, gS, f2]
  refine newK_hp (fun b3 f3 => ?_)
  simp only [off_cons, off_nil] at f3
  simp -dsimp (maxDischargeDepth := 9) only [go_sem, zA, zB, zC, zD, zE, zF, zG, gS, f2, f3, decide_true, beq_self_eq_true]
  refine sameTypes_row ts (by have := hs.1; omega) (fun t ht => sameType_self m t (by have := Ty.nodess_mem ht; omega) (Ty.smalls_mem hs.2 t ht)) _ _ ?_
  simp -dsimp (maxDischargeDepth := 9) only [go_sem, zA, zB, zC, zD, zE, zF, zG, gS, f2, f3]
  exact retW_drop (G := H) (leH_hp0 (by simp only [hpS, eq_self, implies_true, f2, f3])) (retW_is hK)
theorem sameTypes_self {eb : EbG} (ts : List Ty) (hl : ts.length ≤ 1048576) (hs : Ty.smalls ts) (H : Heap) (K : A → Heap → Prop) (hK : K (.d (.bool true)) H) :
  ACall Tryd.prog (seatV eb) 27 [.d (.slice (ts.map Ty.d)), .d (.slice (ts.map Ty.d))] H K :=
 sameTypes_row ts hl (fun t ht => sameType_self t.nodes t (Nat.le_refl _) (Ty.smalls_mem hs t ht)) H K hK
end Go.Aug

/- The reference's comparisons: goals and items with themselves. -/
namespace Go.Aug
open Go.Proofs
set_option maxRecDepth 100000
set_option linter.unusedSimpArgs false
attribute [local irreducible] hid andK letA onSome onVar onArr arrOnly onInt onBool onFunc onTup idxA ldV ldD addO appTo fillL slA srcK nilQ retW gif sgd sguard svc sops sdops sagain aopO aLoad aStore aBin aUn aConv aLen aIndexAddr aIndex aIndexAddrS aIndexS aSlice aAppend aBuild aBuildSlice aMakeSlice aField aFieldOf aCallOp deepK deepL frzM putE newK newV growV ACall roundQ thenQ inBlockQ sret cnd szs nilC onMap onRow aLookup aMapUpdate aMakeMap
attribute [local go_sem] Int.natCast_zero
end Go.Aug

/- The errors' numbers; the program's comparison of flat goals, of a goal with itself. -/
namespace Go.Aug
open Go.Proofs
set_option maxRecDepth 100000
set_option linter.unusedSimpArgs false
attribute [local irreducible] hid andK letA onSome onVar onArr arrOnly onInt onBool onFunc onTup idxA ldV ldD addO appTo fillL slA srcK nilQ retW gif sgd sguard svc sops sdops sagain aopO aLoad aStore aBin aUn aConv aLen aIndexAddr aIndex aIndexAddrS aIndexS aSlice aAppend aBuild aBuildSlice aMakeSlice aField aFieldOf aCallOp deepK deepL frzM putE newK newV growV ACall roundQ thenQ inBlockQ sret cnd szs nilC onMap onRow aLookup aMapUpdate aMakeMap
attribute [local go_sem] Int.natCast_zero
/-- All sentinels are known. -/
class OnAll (e : EbG) : Prop where
 on : ∀ g < 16, e.on g = true
instance {e : EbG} [h : OnAll e] : On e 1 := ⟨h.on 1 (by decide)⟩
instance {e : EbG} [h : OnAll e] : On e 2 := ⟨h.on 2 (by decide)⟩
end Go.Aug

/- The program's comparison of flat goals: a goal with itself. -/
namespace Go.Aug
open Go.Proofs
set_option maxRecDepth 100000
set_option linter.unusedSimpArgs false
attribute [local irreducible] hid andK letA onSome onVar onArr arrOnly onInt onBool onFunc onTup idxA ldV ldD addO appTo fillL slA srcK nilQ retW gif sgd sguard svc sops sdops sagain aopO aLoad aStore aBin aUn aConv aLen aIndexAddr aIndex aIndexAddrS aIndexS aSlice aAppend aBuild aBuildSlice aMakeSlice aField aFieldOf aCallOp deepK deepL frzM putE newK newV growV ACall roundQ thenQ inBlockQ sret cnd szs nilC onMap onRow aLookup aMapUpdate aMakeMap
attribute [local go_sem] Int.natCast_zero
end Go.Aug
