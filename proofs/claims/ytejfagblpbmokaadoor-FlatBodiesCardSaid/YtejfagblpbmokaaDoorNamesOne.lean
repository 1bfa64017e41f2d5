/- The contracts of the reference's names: keys, counts, terms, types, goals, what is well named; conditions stand in each contract. -/
import Derived.Test.YtejfagblpbmokaaDoorParserTwo
import Derived.Test.YtejfagblpbmokaaDoorAugSix
import Derived.Test.YtejfagblpbmokaaDoorRunTwo
set_option linter.all false
set_option linter.unusedVariables false
set_option linter.unusedSimpArgs false
set_option linter.unusedSectionVars false

/- The layer of names: what an index is; the reference's small functions. -/
namespace Go.Aug
open Nat renaming reduceBEq → zA, reduceLT → zB, reduceAdd → zC, reduceSub → zD, reduceMul → zE, reduceLeDiff → zF
open Int renaming reduceLE → zG
open Go.Proofs
set_option maxRecDepth 100000
set_option linter.unusedSimpArgs false
attribute [local irreducible] hid andK letA onSome onVar onArr arrOnly onInt onBool onFunc onTup idxA ldV ldD addO appTo fillL slA srcK nilQ retW gif sgd sguard svc sops sdops sagain aopO aLoad aStore aBin aUn aConv aLen aIndexAddr aIndex aIndexAddrS aIndexS aSlice aAppend aBuild aBuildSlice aMakeSlice aField aFieldOf aCallOp deepK deepL frzM putE newK newV growV ACall roundQ thenQ inBlockQ sret cnd szs nilC onMap onRow aLookup aMapUpdate aMakeMap
attribute [local go_sem] Int.natCast_zero
structure Ky where
 name : ByteArray
 ar : Int
 deriving DecidableEq, Inhabited
def Ky.cs (k : Ky) : List D := [.str k.name, .int .i64 k.ar]
def Ky.d (k : Ky) : D := .agg k.cs
def Ky.eqb (a b : Ky) : Bool := decide (a.name = b.name) && decide (a.ar = b.ar)
theorem Ky.eqb_iff (a b : Ky) : Ky.eqb a b = true ↔ a = b := by
 cases a; cases b; simp [Ky.eqb]
theorem list_at {α : Type} {l : List α} {k : Nat} (h : k < l.length) : ∃ x, l[k]? = some x := ⟨l[k], by simp [h]⟩
theorem drop_at {α : Type} {l : List α} {k : Nat} {x : α} (h : l[k]? = some x) : l.drop k = x :: l.drop (k + 1) := by
 obtain ⟨hk, rfl⟩ := List.getElem?_eq_some_iff.1 h
 exact List.drop_eq_getElem_cons hk
theorem drop_end {α : Type} {l : List α} {k : Nat} (h : l.length ≤ k) : l.drop k = [] := List.drop_eq_nil_of_le h
theorem It.opn (it : It) : ∃ x1 x2 x3 x4 x5 x6 x7 x8 x9 x10 x11 x12, it.body.cs = [x1, x2, x3, x4, x5, x6, x7, x8, x9, x10, x11, x12] ∧ it.d = .agg [.int .i64 it.kind, .str it.name, .slice (it.vars.map .str), .slice (it.ctors.map Ct.d), .slice (it.types.map Ty.d), .slice (it.ways.map .bool), .int .i64 it.det, .slice (it.args.map Tm.d), x1, x2, x3, x4, x5, x6, x7, x8, x9, x10, x11, x12] := by
 obtain ⟨x1, x2, x3, x4, x5, x6, x7, x8, x9, x10, x11, x12, h⟩ := it.body.opn
 exact ⟨_, _, _, _, _, _, _, _, _, _, _, _, h, by simp [It.d, It.cs, h]⟩
theorem in_ok {eb : EbG} (H : Heap) (l : List ByteArray) (hl : l.length ≤ 1048576) (s : ByteArray) (K : A → Heap → Prop) (hK : K (.d (.bool (l.any fun x => decide (x = s)))) H) :
  ACall Tryd.prog (seatV eb) 103 [.d (.slice (l.map .str)), .d (.str s)] H K := by
 refine ACall.by mixed fn103 (by simp) ?_
 conv in s103 => cbv
 refine svc_start ?_
 simp -dsimp (maxDischargeDepth := 9) only [go_sem, zA, zB, zC, zD, zE, zF, zG, gS]
 refine svc_loop (X := Nat) (fun k => [(1, .d (.str s)), (7, .d (.slice (l.map .str))), (8, .d (.int .i64 l.length)), (9, .d (.int .i64 k))])
  (fun k G => G = H ∧ k ≤ l.length ∧ ((l.drop k).any fun x => decide (x = s)) = l.any fun x => decide (x = s)) (fun k => l.length - k) 0 _ ⟨rfl, by omega, rfl⟩ (by simp -dsimp (maxDischargeDepth := 9) only [go_sem, zA, zB, zC, zD, zE, zF, zG, gS]) (.refl _) ?_
 rintro k G ⟨rfl, hk, hrun⟩
 simp -dsimp (maxDischargeDepth := 9) only [go_sem, zA, zB, zC, zD, zE, zF, zG, gS]
 refine gif_split (fun g1 => ?_) (fun g1 => ?_)
 ·have g1' : k < l.length := by have := of_decide_eq_true g1; omega
  obtain ⟨x, hx⟩ := list_at g1'
  have hw := wrapN (k := k) (by omega)
  rw [drop_at hx, List.any_cons] at hrun
  simp -dsimp (maxDischargeDepth := 9) only [go_sem, zA, zB, zC, zD, zE, zF, zG, gS, g1, hx]
  refine gif_split (fun g2 => ?_) (fun g2 => ?_)
  ·simp -dsimp (maxDischargeDepth := 9) only [go_sem, zA, zB, zC, zD, zE, zF, zG, gS, g2]
   refine retW_is ?_
   rw [← hrun, g2] at hK; exact hK
  ·simp -dsimp (maxDischargeDepth := 9) only [go_sem, zA, zB, zC, zD, zE, zF, zG, gS, g2, hw]
   refine roundQ_next (k + 1) _ ⟨rfl, g1', ?_⟩ (by omega) (by simp -dsimp (maxDischargeDepth := 9) only [go_sem, zA, zB, zC, zD, zE, zF, zG, gS]) (.refl _)
   rw [← hrun, g2, Bool.false_or]
 ·rw [drop_end (by have := of_decide_eq_false g1; omega)] at hrun
  simp -dsimp (maxDischargeDepth := 9) only [go_sem, zA, zB, zC, zD, zE, zF, zG, gS, g1]
  refine retW_is ?_
  rw [← hrun] at hK; exact hK
def sameWays : List Bool → List Bool → Bool
 | [], [] => true
 | a :: l, b :: m => (a == b) && sameWays l m
 | _, _ => false
theorem sameWays_iff : ∀ l m : List Bool, sameWays l m = true ↔ l = m
 | [], [] => by simp [sameWays]
 | a :: l, b :: m => by simp [sameWays, sameWays_iff l m]
 | [], _ :: _ => by simp [sameWays]
 | _ :: _, [] => by simp [sameWays]
theorem sameWays_len {l m : List Bool} (h : l.length ≠ m.length) : sameWays l m = false := by
 cases hs : sameWays l m with
 | false => rfl
 | true => rw [sameWays_iff] at hs; exact absurd (by rw [hs]) h
theorem ways_ok {eb : EbG} (H : Heap) (l m : List Bool) (hl : l.length ≤ 1048576) (K : A → Heap → Prop) (hK : K (.d (.bool (sameWays l m))) H) :
  ACall Tryd.prog (seatV eb) 81 [.d (.slice (l.map .bool)), .d (.slice (m.map .bool))] H K := by
 refine ACall.by mixed fn81 (by simp) ?_
 conv in s81 => cbv
 refine svc_start ?_
 simp -dsimp (maxDischargeDepth := 9) only [go_sem, zA, zB, zC, zD, zE, zF, zG, gS]
 refine gif_split (fun g1 => ?_) (fun g1 => ?_)
 ·simp -dsimp (maxDischargeDepth := 9) only [go_sem, zA, zB, zC, zD, zE, zF, zG, gS, g1]
  refine retW_is ?_
  rw [sameWays_len (by simp at g1; omega)] at hK; exact hK
 ·have hlm : l.length = m.length := by simp at g1; omega
  simp -dsimp (maxDischargeDepth := 9) only [go_sem, zA, zB, zC, zD, zE, zF, zG, gS, g1]
  refine svc_loop (X := Nat) (fun k => [(0, .d (.slice (l.map .bool))), (1, .d (.slice (m.map .bool))), (12, .d (.int .i64 l.length)), (13, .d (.int .i64 k))])
   (fun k G => G = H ∧ k ≤ l.length ∧ sameWays (l.drop k) (m.drop k) = sameWays l m) (fun k => l.length - k) 0 _ ⟨rfl, by omega, rfl⟩ (by simp -dsimp (maxDischargeDepth := 9) only [go_sem, zA, zB, zC, zD, zE, zF, zG, gS]) (.refl _) ?_
  rintro k G ⟨rfl, hk, hrun⟩
  simp -dsimp (maxDischargeDepth := 9) only [go_sem, zA, zB, zC, zD, zE, zF, zG, gS]
  refine gif_split (fun g2 => ?_) (fun g2 => ?_)
  ·have g2' : k < l.length := by have := of_decide_eq_true g2; omega
   obtain ⟨x, hx⟩ := list_at g2'
   obtain ⟨y, hy⟩ := list_at (show k < m.length by omega)
   have hw := wrapN (k := k) (by omega)
   rw [drop_at hx, drop_at hy] at hrun
   simp only [sameWays] at hrun
   simp -dsimp (maxDischargeDepth := 9) only [go_sem, zA, zB, zC, zD, zE, zF, zG, gS, g2, hx, hy]
   refine gif_split (fun g3 => ?_) (fun g3 => ?_)
   ·have g3' : (x == y) = false := by simpa using g3
    simp -dsimp (maxDischargeDepth := 9) only [go_sem, zA, zB, zC, zD, zE, zF, zG, gS, g3]
    refine retW_is ?_
    rw [← hrun, g3'] at hK; exact hK
   ·have g3' : (x == y) = true := by simpa using g3
    simp -dsimp (maxDischargeDepth := 9) only [go_sem, zA, zB, zC, zD, zE, zF, zG, gS, g3, hw]
    refine roundQ_next (k + 1) _ ⟨rfl, g2', ?_⟩ (by omega) (by simp -dsimp (maxDischargeDepth := 9) only [go_sem, zA, zB, zC, zD, zE, zF, zG, gS]) (.refl _)
    rw [← hrun, g3', Bool.true_and]
  ·rw [drop_end (by have := of_decide_eq_false g2; omega), drop_end (by have := of_decide_eq_false g2; omega)] at hrun
   simp -dsimp (maxDischargeDepth := 9) only [go_sem, zA, zB, zC, zD, zE, zF, zG, gS, g2]
   refine retW_is ?_
   rw [← hrun] at hK; exact hK
def keyOf (it : It) : Ky := if it.kind = 2 then ⟨it.name, it.types.length⟩ else if it.kind = 3 then ⟨it.name, it.ways.length⟩ else ⟨it.name, it.args.length⟩
theorem keyOf_ok {eb : EbG} (H : Heap) (it : It) (K : A → Heap → Prop) (hK : K (.d (keyOf it).d) H) :
  ACall Tryd.prog (seatV eb) 56 [.d it.d] H K := by
 obtain ⟨x1, x2, x3, x4, x5, x6, x7, x8, x9, x10, x11, x12, _, hd⟩ := it.opn
 rw [hd]
 refine ACall.hp_start ?_
 refine ACall.by mixed fn56 (by simp) ?_
 conv in s56 => cbv
 refine svc_start ?_
 simp -dsimp (maxDischargeDepth := 9) only [go_sem, zA, zB, zC, zD, zE, zF, zG, gS]
 refine newK_hp (fun b1 f1 => ?_)
 simp only [off_cons, off_nil] at f1
 simp -dsimp (maxDischargeDepth := 9) only [go_sem, zA, zB, zC, zD, zE, zF, zG, gS, f1]
 refine newK_hp (fun b2 f2 => ?_)
 simp only [off_cons, off_nil] at f2
 simp -dsimp (maxDischargeDepth := 9) only [go_sem, zA, zB, zC, zD, zE, zF, zG, gS, f1, f2]
 have h1 : it.kind = 2 → K (.d (.agg [.str it.name, .int .i64 it.types.length])) H := fun e => by rw [keyOf, if_pos e] at hK; exact hK
 have h2 : it.kind ≠ 2 → it.kind = 3 → K (.d (.agg [.str it.name, .int .i64 it.ways.length])) H := fun e e' => by rw [keyOf, if_neg e, if_pos e'] at hK; exact hK
 have h3 : it.kind ≠ 2 → it.kind ≠ 3 → K (.d (.agg [.str it.name, .int .i64 it.args.length])) H := fun e e' => by rw [keyOf, if_neg e, if_neg e'] at hK; exact hK
 refine gif_split (fun g1 => ?_) (fun g1 => ?_)
 ·simp -dsimp (maxDischargeDepth := 9) only [go_sem, zA, zB, zC, zD, zE, zF, zG, gS, g1, f1, f2]
  exact retW_drop (G := H) (leH_hp0 (by simp only [hpS, eq_self, implies_true, f1, f2])) (retW_is (h1 (of_decide_eq_true g1)))
 ·simp -dsimp (maxDischargeDepth := 9) only [go_sem, zA, zB, zC, zD, zE, zF, zG, gS, g1, f1, f2]
  refine gif_split (fun g2 => ?_) (fun g2 => ?_)
  ·simp -dsimp (maxDischargeDepth := 9) only [go_sem, zA, zB, zC, zD, zE, zF, zG, gS, g2, f1, f2]
   exact retW_drop (G := H) (leH_hp0 (by simp only [hpS, eq_self, implies_true, f1, f2])) (retW_is (h2 (of_decide_eq_false g1) (of_decide_eq_true g2)))
  ·simp -dsimp (maxDischargeDepth := 9) only [go_sem, zA, zB, zC, zD, zE, zF, zG, gS, g2, f1, f2]
   exact retW_drop (G := H) (leH_hp0 (by simp only [hpS, eq_self, implies_true, f1, f2])) (retW_is (h3 (of_decide_eq_false g1) (of_decide_eq_false g2)))
end Go.Aug

/- The layer of names: how often things stand in a source. -/
namespace Go.Aug
open Nat renaming reduceBEq → zA, reduceLT → zB, reduceAdd → zC, reduceSub → zD, reduceMul → zE, reduceLeDiff → zF
open Int renaming reduceLE → zG
open Go.Proofs
set_option maxRecDepth 100000
set_option linter.unusedSimpArgs false
attribute [local irreducible] hid andK letA onSome onVar onArr arrOnly onInt onBool onFunc onTup idxA ldV ldD addO appTo fillL slA srcK nilQ retW gif sgd sguard svc sops sdops sagain aopO aLoad aStore aBin aUn aConv aLen aIndexAddr aIndex aIndexAddrS aIndexS aSlice aAppend aBuild aBuildSlice aMakeSlice aField aFieldOf aCallOp deepK deepL frzM putE newK newV growV ACall roundQ thenQ inBlockQ sret cnd szs nilC onMap onRow aLookup aMapUpdate aMakeMap
attribute [local go_sem] Int.natCast_zero
def isOf (kind : Int) (k : Ky) (it : It) : Bool := decide (it.kind = kind) && Ky.eqb (keyOf it) k
def rcount (l : List It) (kind : Int) (k : Ky) : Nat := l.countP (isOf kind k)
theorem countP_le {α : Type} (p : α → Bool) (l : List α) : l.countP p ≤ l.length := List.countP_le_length
theorem count_ok {eb : EbG} (H : Heap) (l : List It) (hl : l.length ≤ 1048576) (kind : Int) (q : Ky) (K : A → Heap → Prop) (hK : K (.d (.int .i64 (rcount l kind q))) H) :
  ACall Tryd.prog (seatV eb) 106 [.d (.slice (l.map It.d)), .d (.int .i64 kind), .d q.d] H K := by
 refine ACall.hp_start ?_
 refine ACall.by mixed fn106 (by simp) ?_
 conv in s106 => cbv
 refine svc_start ?_
 simp -dsimp (maxDischargeDepth := 9) only [go_sem, zA, zB, zC, zD, zE, zF, zG, gS, Ky.d, Ky.cs]
 refine newK_hp (fun b5 f5 => ?_)
 simp only [off_cons, off_nil] at f5
 simp -dsimp (maxDischargeDepth := 9) only [go_sem, zA, zB, zC, zD, zE, zF, zG, gS, f5]
 refine svc_loop (X := Nat × Nat) (fun x => [(1, .d (.int .i64 kind)), (5, .ref b5 0), (7, .d (.int .i64 x.2)), (10, .d (.slice (l.map It.d))), (11, .d (.int .i64 l.length)), (12, .d (.int .i64 x.1))])
  (fun x G => G = hp H [(b5, .var [.d (.str q.name), .d (.int .i64 q.ar)])] ∧ x.1 ≤ l.length ∧ x.2 + (l.drop x.1).countP (isOf kind q) = rcount l kind q) (fun x => l.length - x.1) (0, 0) _ ⟨rfl, by omega, by simp [rcount]⟩ (by simp -dsimp (maxDischargeDepth := 9) only [go_sem, zA, zB, zC, zD, zE, zF, zG, gS]) (.refl _) ?_
 rintro ⟨k, n⟩ G ⟨rfl, hk, hrun⟩
 simp only at hk hrun
 have htot : rcount l kind q ≤ l.length := countP_le _ _
 simp -dsimp (maxDischargeDepth := 9) only [go_sem, zA, zB, zC, zD, zE, zF, zG, gS]
 refine gif_split (fun g1 => ?_) (fun g1 => ?_)
 ·have g1' : k < l.length := by have := of_decide_eq_true g1; omega
  obtain ⟨it, hx⟩ := list_at g1'
  have hw := wrapN (k := k) (by omega)
  have hwn := wrapN (k := n) (by omega)
  rw [drop_at hx, List.countP_cons] at hrun
  obtain ⟨x1, x2, x3, x4, x5, x6, x7, x8, x9, x10, x11, x12, _, hd⟩ := it.opn
  simp -dsimp (maxDischargeDepth := 9) only [go_sem, zA, zB, zC, zD, zE, zF, zG, gS, g1, hx, hd]
  refine newK_hp (fun b9 f9 => ?_)
  simp only [off_cons, off_nil] at f9
  simp -dsimp (maxDischargeDepth := 9) only [go_sem, zA, zB, zC, zD, zE, zF, zG, gS, f5, f9]
  refine gif_split (fun g2 => ?_) (fun g2 => ?_)
  ·simp -dsimp (maxDischargeDepth := 9) only [go_sem, zA, zB, zC, zD, zE, zF, zG, gS, f5, f9, g2]
   rw [← hd]
   refine keyOf_ok _ it _ ?_
   simp -dsimp (maxDischargeDepth := 9) only [go_sem, zA, zB, zC, zD, zE, zF, zG, gS, f5, f9, Ky.d, Ky.cs]
   refine gif_split (fun g3 => ?_) (fun g3 => ?_)
   ·have hy : isOf kind q it = true := by simp only [isOf, Ky.eqb, g2, Bool.true_and]; simpa using g3
    rw [hy] at hrun
    simp -dsimp (maxDischargeDepth := 9) only [go_sem, zA, zB, zC, zD, zE, zF, zG, gS, f5, f9, hw, hwn]
    exact roundQ_next (k + 1, n + 1) _ ⟨rfl, g1', by rw [← hrun]; simp only [if_true]; omega⟩ (by simp only; omega) (by simp -dsimp (maxDischargeDepth := 9) only [go_sem, zA, zB, zC, zD, zE, zF, zG, gS]) (leH_hp (by simp only [hpS, eq_self, implies_true, f5, f9]) (by simp only [hpS, eq_self, implies_true, f5, f9]))
   ·have hy : isOf kind q it = false := by simp only [isOf, Ky.eqb, g2, Bool.true_and]; simpa using g3
    rw [hy] at hrun
    simp -dsimp (maxDischargeDepth := 9) only [go_sem, zA, zB, zC, zD, zE, zF, zG, gS, f5, f9, hw]
    exact roundQ_next (k + 1, n) _ ⟨rfl, g1', by rw [← hrun]; simp⟩ (by simp only; omega) (by simp -dsimp (maxDischargeDepth := 9) only [go_sem, zA, zB, zC, zD, zE, zF, zG, gS]) (leH_hp (by simp only [hpS, eq_self, implies_true, f5, f9]) (by simp only [hpS, eq_self, implies_true, f5, f9]))
  ·have hy : isOf kind q it = false := by simp only [isOf, g2, Bool.false_and]
   rw [hy] at hrun
   simp -dsimp (maxDischargeDepth := 9) only [go_sem, zA, zB, zC, zD, zE, zF, zG, gS, f5, f9, g2, hw]
   exact roundQ_next (k + 1, n) _ ⟨rfl, g1', by rw [← hrun]; simp⟩ (by simp only; omega) (by simp -dsimp (maxDischargeDepth := 9) only [go_sem, zA, zB, zC, zD, zE, zF, zG, gS]) (leH_hp (by simp only [hpS, eq_self, implies_true, f5, f9]) (by simp only [hpS, eq_self, implies_true, f5, f9]))
 ·rw [drop_end (by have := of_decide_eq_false g1; omega)] at hrun
  have : n = rcount l kind q := by simpa using hrun
  subst this
  simp -dsimp (maxDischargeDepth := 9) only [go_sem, zA, zB, zC, zD, zE, zF, zG, gS, g1]
  exact retW_drop (G := H) (leH_hp0 (by simp only [hpS, eq_self, implies_true, f5])) (retW_is hK)
def tyOf (name : ByteArray) (it : It) : Bool := decide (it.kind = 1) && decide (it.name = name)
def tyVars (name : ByteArray) (vars : Int) (it : It) : Bool := tyOf name it && decide ((it.vars.length : Int) = vars)
theorem types_ok {eb : EbG} (H : Heap) (l : List It) (hl : l.length ≤ 1048576) (name : ByteArray) (vars : Int) (K : A → Heap → Prop) (hK : K (.tup [.d (.int .i64 (l.countP (tyVars name vars))), .d (.int .i64 (l.countP (tyOf name)))]) H) :
  ACall Tryd.prog (seatV eb) 102 [.d (.slice (l.map It.d)), .d (.str name), .d (.int .i64 vars)] H K := by
 refine ACall.hp_start ?_
 refine ACall.by mixed fn102 (by simp) ?_
 conv in s102 => cbv
 refine svc_start ?_
 simp -dsimp (maxDischargeDepth := 9) only [go_sem, zA, zB, zC, zD, zE, zF, zG, gS]
 refine svc_loop (X := Nat × Nat × Nat) (fun x => [(1, .d (.str name)), (2, .d (.int .i64 vars)), (8, .d (.int .i64 x.2.1)), (9, .d (.int .i64 x.2.2)), (12, .d (.slice (l.map It.d))), (13, .d (.int .i64 l.length)), (14, .d (.int .i64 x.1))])
  (fun x G => G = hp H [] ∧ x.1 ≤ l.length ∧ x.2.1 + (l.drop x.1).countP (tyVars name vars) = l.countP (tyVars name vars) ∧ x.2.2 + (l.drop x.1).countP (tyOf name) = l.countP (tyOf name)) (fun x => l.length - x.1) (0, 0, 0) _ ⟨rfl, by omega, by simp, by simp⟩ (by simp -dsimp (maxDischargeDepth := 9) only [go_sem, zA, zB, zC, zD, zE, zF, zG, gS]) (.refl _) ?_
 rintro ⟨k, n, m⟩ G ⟨hG, hk, hn, hm⟩
 rw [hG]
 simp only at hk hn hm
 have ht1 := countP_le (tyVars name vars) l
 have ht2 := countP_le (tyOf name) l
 simp -dsimp (maxDischargeDepth := 9) only [go_sem, zA, zB, zC, zD, zE, zF, zG, gS]
 refine gif_split (fun g1 => ?_) (fun g1 => ?_)
 ·have g1' : k < l.length := by have := of_decide_eq_true g1; omega
  obtain ⟨it, hx⟩ := list_at g1'
  have hw := wrapN (k := k) (by omega)
  have hwn := wrapN (k := n) (by omega)
  have hwm := wrapN (k := m) (by omega)
  rw [drop_at hx, List.countP_cons] at hn hm
  obtain ⟨x1, x2, x3, x4, x5, x6, x7, x8, x9, x10, x11, x12, _, hd⟩ := it.opn
  have hno : tyOf name it = false → l.countP (tyVars name vars) = n + (l.drop (k + 1)).countP (tyVars name vars) ∧ l.countP (tyOf name) = m + (l.drop (k + 1)).countP (tyOf name) := fun h => by
   have h' : tyVars name vars it = false := by simp [tyVars, h]
   rw [h'] at hn; rw [h] at hm
   exact ⟨by rw [← hn]; simp, by rw [← hm]; simp⟩
  simp -dsimp (maxDischargeDepth := 9) only [go_sem, zA, zB, zC, zD, zE, zF, zG, gS, g1, hx, hd]
  refine newK_hp (fun b11 f11 => ?_)
  simp only [off_cons, off_nil] at f11
  simp -dsimp (maxDischargeDepth := 9) only [go_sem, zA, zB, zC, zD, zE, zF, zG, gS, f11]
  refine gif_split (fun g2 => ?_) (fun g2 => ?_)
  ·simp -dsimp (maxDischargeDepth := 9) only [go_sem, zA, zB, zC, zD, zE, zF, zG, gS, f11, g2]
   refine gif_split (fun g3 => ?_) (fun g3 => ?_)
   ·have hy : tyOf name it = true := by simp only [tyOf, g2, g3, Bool.true_and]
    rw [hy] at hm
    simp -dsimp (maxDischargeDepth := 9) only [go_sem, zA, zB, zC, zD, zE, zF, zG, gS, f11, g3, hwm]
    refine gif_split (fun g4 => ?_) (fun g4 => ?_)
    ·have hy2 : tyVars name vars it = true := by simp only [tyVars, hy, g4, Bool.true_and]
     rw [hy2] at hn
     simp -dsimp (maxDischargeDepth := 9) only [go_sem, zA, zB, zC, zD, zE, zF, zG, gS, f11, g4, hwn, hw]
     exact roundQ_next (k + 1, n + 1, m + 1) _ ⟨rfl, g1', by rw [← hn]; simp only [if_true]; omega, by rw [← hm]; simp only [if_true]; omega⟩ (by simp only; omega) (by simp -dsimp (maxDischargeDepth := 9) only [go_sem, zA, zB, zC, zD, zE, zF, zG, gS]) (leH_hp (by simp only [hpS, eq_self, implies_true, f11]) (by simp only [hpS, eq_self, implies_true, f11]))
    ·have hy2 : tyVars name vars it = false := by simp only [tyVars, hy, g4, Bool.true_and]
     rw [hy2] at hn
     simp -dsimp (maxDischargeDepth := 9) only [go_sem, zA, zB, zC, zD, zE, zF, zG, gS, f11, g4, hw]
     exact roundQ_next (k + 1, n, m + 1) _ ⟨rfl, g1', by rw [← hn]; simp, by rw [← hm]; simp only [if_true]; omega⟩ (by simp only; omega) (by simp -dsimp (maxDischargeDepth := 9) only [go_sem, zA, zB, zC, zD, zE, zF, zG, gS]) (leH_hp (by simp only [hpS, eq_self, implies_true, f11]) (by simp only [hpS, eq_self, implies_true, f11]))
   ·have hy : tyOf name it = false := by simp only [tyOf, g2, g3, Bool.true_and]
    simp -dsimp (maxDischargeDepth := 9) only [go_sem, zA, zB, zC, zD, zE, zF, zG, gS, f11, g3, hw]
    exact roundQ_next (k + 1, n, m) _ ⟨rfl, g1', (hno hy).1.symm, (hno hy).2.symm⟩ (by simp only; omega) (by simp -dsimp (maxDischargeDepth := 9) only [go_sem, zA, zB, zC, zD, zE, zF, zG, gS]) (leH_hp (by simp only [hpS, eq_self, implies_true, f11]) (by simp only [hpS, eq_self, implies_true, f11]))
  ·have hy : tyOf name it = false := by simp only [tyOf, g2, Bool.false_and]
   simp -dsimp (maxDischargeDepth := 9) only [go_sem, zA, zB, zC, zD, zE, zF, zG, gS, f11, g2, hw]
   exact roundQ_next (k + 1, n, m) _ ⟨rfl, g1', (hno hy).1.symm, (hno hy).2.symm⟩ (by simp only; omega) (by simp -dsimp (maxDischargeDepth := 9) only [go_sem, zA, zB, zC, zD, zE, zF, zG, gS]) (leH_hp (by simp only [hpS, eq_self, implies_true, f11]) (by simp only [hpS, eq_self, implies_true, f11]))
 ·rw [drop_end (by have := of_decide_eq_false g1; omega)] at hn hm
  have h1 : n = l.countP (tyVars name vars) := by simpa using hn
  have h2 : m = l.countP (tyOf name) := by simpa using hm
  rw [← h1, ← h2] at hK
  simp -dsimp (maxDischargeDepth := 9) only [go_sem, zA, zB, zC, zD, zE, zF, zG, gS, g1]
  exact retW_drop (G := H) (leH_hp0 (by simp only [hpS, eq_self, implies_true, ])) (retW_is hK)
def ctOf (q : Ky) (c : Ct) : Bool := decide (c.name = q.name) && decide ((c.args.length : Int) = q.ar)
def rctors (l : List It) (q : Ky) : Nat := (l.map fun it => if it.kind = 1 then it.ctors.countP (ctOf q) else 0).sum
theorem rctors_cons (it : It) (l : List It) (q : Ky) : rctors (it :: l) q = (if it.kind = 1 then it.ctors.countP (ctOf q) else 0) + rctors l q := by simp [rctors]
theorem sum_le {α : Type} (f : α → Nat) (B : Nat) : ∀ l : List α, (∀ x ∈ l, f x ≤ B) → (l.map f).sum ≤ l.length * B
 | [], _ => by simp
 | x :: l, h => by
  have h1 := h x (.head _)
  have h2 := sum_le f B l fun y hy => h y (.tail _ hy)
  simp only [List.map_cons, List.sum_cons, List.length_cons, Nat.add_mul]; omega
theorem ctors_ok {eb : EbG} (H : Heap) (l : List It) (hl : l.length ≤ 1048576) (hc : ∀ it ∈ l, it.ctors.length ≤ 32768) (q : Ky) (K : A → Heap → Prop) (hK : K (.d (.int .i64 (rctors l q))) H) :
  ACall Tryd.prog (seatV eb) 104 [.d (.slice (l.map It.d)), .d q.d] H K := by
 have htot : rctors l q ≤ 34359738368 := by
  have := sum_le (fun it : It => if it.kind = 1 then it.ctors.countP (ctOf q) else 0) 32768 l fun it hit => by
   have := countP_le (ctOf q) it.ctors
   have := hc it hit
   split <;> omega
  have h2 : l.length * 32768 ≤ 1048576 * 32768 := Nat.mul_le_mul_right _ hl
  simp only [rctors]; omega
 refine ACall.hp_start ?_
 refine ACall.by mixed fn104 (by simp) ?_
 conv in s104 => cbv
 refine svc_start ?_
 simp -dsimp (maxDischargeDepth := 9) only [go_sem, zA, zB, zC, zD, zE, zF, zG, gS, Ky.d, Ky.cs]
 refine newK_hp (fun b3 f3 => ?_)
 simp only [off_cons, off_nil] at f3
 simp -dsimp (maxDischargeDepth := 9) only [go_sem, zA, zB, zC, zD, zE, zF, zG, gS, f3]
 refine svc_loop (X := Nat × Nat) (fun x => [(3, .ref b3 0), (5, .d (.int .i64 x.2)), (10, .d (.slice (l.map It.d))), (11, .d (.int .i64 l.length)), (12, .d (.int .i64 x.1))])
  (fun x G => G = hp H [(b3, .var [.d (.str q.name), .d (.int .i64 q.ar)])] ∧ x.1 ≤ l.length ∧ x.2 + rctors (l.drop x.1) q = rctors l q) (fun x => l.length - x.1) (0, 0) _ ⟨rfl, by omega, by simp⟩ (by simp -dsimp (maxDischargeDepth := 9) only [go_sem, zA, zB, zC, zD, zE, zF, zG, gS]) (.refl _) ?_
 rintro ⟨k, n⟩ G ⟨rfl, hk, hrun⟩
 simp only at hk hrun
 simp -dsimp (maxDischargeDepth := 9) only [go_sem, zA, zB, zC, zD, zE, zF, zG, gS]
 refine gif_split (fun g1 => ?_) (fun g1 => ?_)
 ·have g1' : k < l.length := by have := of_decide_eq_true g1; omega
  obtain ⟨it, hx⟩ := list_at g1'
  have hw := wrapN (k := k) (by omega)
  rw [drop_at hx, rctors_cons] at hrun
  have hcl := hc it (List.mem_of_getElem? hx)
  obtain ⟨x1, x2, x3, x4, x5, x6, x7, x8, x9, x10, x11, x12, _, hd⟩ := it.opn
  simp -dsimp (maxDischargeDepth := 9) only [go_sem, zA, zB, zC, zD, zE, zF, zG, gS, g1, hx, hd]
  refine newK_hp (fun b7 f7 => ?_)
  simp only [off_cons, off_nil] at f7
  simp -dsimp (maxDischargeDepth := 9) only [go_sem, zA, zB, zC, zD, zE, zF, zG, gS, f3, f7]
  refine gif_split (fun g2 => ?_) (fun g2 => ?_)
  ·have g2' : ¬ it.kind = 1 := by simpa using g2
   rw [if_neg g2'] at hrun
   simp -dsimp (maxDischargeDepth := 9) only [go_sem, zA, zB, zC, zD, zE, zF, zG, gS, f3, f7, g2, hw]
   exact roundQ_next (k + 1, n) _ ⟨rfl, g1', by simp only; omega⟩ (by simp only; omega) (by simp -dsimp (maxDischargeDepth := 9) only [go_sem, zA, zB, zC, zD, zE, zF, zG, gS]) (leH_hp (by simp only [hpS, eq_self, implies_true, f3, f7]) (by simp only [hpS, eq_self, implies_true, f3, f7]))
  ·have g2' : it.kind = 1 := by simpa using g2
   rw [if_pos g2'] at hrun
   simp -dsimp (maxDischargeDepth := 9) only [go_sem, zA, zB, zC, zD, zE, zF, zG, gS, f3, f7, g2]
   refine svc_loop (X := Nat × Nat) (fun x => [(3, .ref b3 0), (5, .d (.int .i64 x.2)), (10, .d (.slice (l.map It.d))), (11, .d (.int .i64 l.length)), (12, .d (.int .i64 k)), (20, .d (.slice (it.ctors.map Ct.d))), (21, .d (.int .i64 it.ctors.length)), (22, .d (.int .i64 x.1))])
    (fun x G => G = hp H [(b3, .var [.d (.str q.name), .d (.int .i64 q.ar)])] ∧ x.1 ≤ it.ctors.length ∧ x.2 + (it.ctors.drop x.1).countP (ctOf q) = n + it.ctors.countP (ctOf q)) (fun x => it.ctors.length - x.1) (0, n) _ ⟨rfl, by omega, by simp⟩ (by simp -dsimp (maxDischargeDepth := 9) only [go_sem, zA, zB, zC, zD, zE, zF, zG, gS]) (leH_hp (by simp only [hpS, eq_self, implies_true, f3, f7]) (by simp only [hpS, eq_self, implies_true, f3, f7])) ?_
   rintro ⟨j, m⟩ G ⟨rfl, hj, hin⟩
   simp only at hj hin
   simp -dsimp (maxDischargeDepth := 9) only [go_sem, zA, zB, zC, zD, zE, zF, zG, gS]
   refine gif_split (fun g3 => ?_) (fun g3 => ?_)
   ·have g3' : j < it.ctors.length := by have := of_decide_eq_true g3; omega
    obtain ⟨c, hy⟩ := list_at g3'
    have hwj := wrapN (k := j) (by omega)
    have hwm := wrapN (k := m) (by omega)
    rw [drop_at hy, List.countP_cons] at hin
    simp -dsimp (maxDischargeDepth := 9) only [go_sem, zA, zB, zC, zD, zE, zF, zG, gS, g3, hy, Ct.d, Ct.cs]
    refine newK_hp (fun b9 f9 => ?_)
    simp only [off_cons, off_nil] at f9
    simp -dsimp (maxDischargeDepth := 9) only [go_sem, zA, zB, zC, zD, zE, zF, zG, gS, f3, f9]
    refine gif_split (fun g4 => ?_) (fun g4 => ?_)
    ·simp -dsimp (maxDischargeDepth := 9) only [go_sem, zA, zB, zC, zD, zE, zF, zG, gS, f3, f9, g4]
     refine gif_split (fun g5 => ?_) (fun g5 => ?_)
     ·have hyy : ctOf q c = true := by simp only [ctOf, g4, g5, Bool.true_and]
      rw [hyy] at hin
      simp -dsimp (maxDischargeDepth := 9) only [go_sem, zA, zB, zC, zD, zE, zF, zG, gS, f3, f9, g5, hwj, hwm]
      exact roundQ_next (j + 1, m + 1) _ ⟨rfl, g3', by simp only [if_true] at hin; simp only; omega⟩ (by simp only; omega) (by simp -dsimp (maxDischargeDepth := 9) only [go_sem, zA, zB, zC, zD, zE, zF, zG, gS]) (leH_hp (by simp only [hpS, eq_self, implies_true, f3, f9]) (by simp only [hpS, eq_self, implies_true, f3, f9]))
     ·have hyy : ctOf q c = false := by simp only [ctOf, g4, g5, Bool.true_and]
      rw [hyy] at hin
      simp -dsimp (maxDischargeDepth := 9) only [go_sem, zA, zB, zC, zD, zE, zF, zG, gS, f3, f9, g5, hwj]
      exact roundQ_next (j + 1, m) _ ⟨rfl, g3', by rw [← hin]; simp⟩ (by simp only; omega) (by simp -dsimp (maxDischargeDepth := 9) only [go_sem, zA, zB, zC, zD, zE, zF, zG, gS]) (leH_hp (by simp only [hpS, eq_self, implies_true, f3, f9]) (by simp only [hpS, eq_self, implies_true, f3, f9]))
    ·have hyy : ctOf q c = false := by simp only [ctOf, g4, Bool.false_and]
     rw [hyy] at hin
     simp -dsimp (maxDischargeDepth := 9) only [go_sem, zA, zB, zC, zD, zE, zF, zG, gS, f3, f9, g4, hwj]
     exact roundQ_next (j + 1, m) _ ⟨rfl, g3', by rw [← hin]; simp⟩ (by simp only; omega) (by simp -dsimp (maxDischargeDepth := 9) only [go_sem, zA, zB, zC, zD, zE, zF, zG, gS]) (leH_hp (by simp only [hpS, eq_self, implies_true, f3, f9]) (by simp only [hpS, eq_self, implies_true, f3, f9]))
   ·rw [drop_end (by have := of_decide_eq_false g3; omega)] at hin
    have hm : m = n + it.ctors.countP (ctOf q) := by simpa using hin
    simp -dsimp (maxDischargeDepth := 9) only [go_sem, zA, zB, zC, zD, zE, zF, zG, gS, g3, hw]
    exact roundQ_next (k + 1, m) _ ⟨rfl, g1', by rw [hm]; simp only; omega⟩ (by simp only; omega) (by simp -dsimp (maxDischargeDepth := 9) only [go_sem, zA, zB, zC, zD, zE, zF, zG, gS]) (leH_hp (by simp only [hpS, eq_self, implies_true, f3]) (by simp only [hpS, eq_self, implies_true, f3]))
 ·rw [drop_end (by have := of_decide_eq_false g1; omega)] at hrun
  have : n = rctors l q := by simpa [rctors] using hrun
  subst this
  simp -dsimp (maxDischargeDepth := 9) only [go_sem, zA, zB, zC, zD, zE, zF, zG, gS, g1]
  exact retW_drop (G := H) (leH_hp0 (by simp only [hpS, eq_self, implies_true, f3])) (retW_is hK)
end Go.Aug

/- The layer of names: the built in predicates. -/
namespace Go.Aug
open Nat renaming reduceBEq → zA, reduceLT → zB, reduceAdd → zC, reduceSub → zD, reduceMul → zE, reduceLeDiff → zF
open Int renaming reduceLE → zG
open Go.Proofs
set_option maxRecDepth 100000
set_option linter.unusedSimpArgs false
attribute [local irreducible] hid andK letA onSome onVar onArr arrOnly onInt onBool onFunc onTup idxA ldV ldD addO appTo fillL slA srcK nilQ retW gif sgd sguard svc sops sdops sagain aopO aLoad aStore aBin aUn aConv aLen aIndexAddr aIndex aIndexAddrS aIndexS aSlice aAppend aBuild aBuildSlice aMakeSlice aField aFieldOf aCallOp deepK deepL frzM putE newK newV growV ACall roundQ thenQ inBlockQ sret cnd szs nilC onMap onRow aLookup aMapUpdate aMakeMap
attribute [local go_sem] Int.natCast_zero
structure Md where
 ways : List Bool
 det : Int
 deriving Inhabited, DecidableEq
def Md.cs (m : Md) : List D := [.slice (m.ways.map .bool), .int .i64 m.det]
def Md.d (m : Md) : D := .agg m.cs
structure Pr where
 key : Ky
 types : List Ty
 modes : List Md
 clauses : List Int
 deriving Inhabited
def Pr.cs (p : Pr) : List D := [.str p.key.name, .int .i64 p.key.ar, .slice (p.types.map Ty.d), .slice (p.modes.map Md.d), .slice (p.clauses.map (.int .i64))]
def Pr.d (p : Pr) : D := .agg p.cs
def tyInt : Ty := .mk false kInt []
def bArith (n : ByteArray) : Pr := ⟨⟨n, 3⟩, [tyInt, tyInt, tyInt], [⟨[true, true, false], 1⟩], []⟩
def bLess (n : ByteArray) : Pr := ⟨⟨n, 2⟩, [tyInt, tyInt], [⟨[true, true], 2⟩], []⟩
def builtinsL : List Pr := [bArith ⟨#[97, 100, 100]⟩, bArith ⟨#[115, 117, 98]⟩, bArith ⟨#[109, 117, 108]⟩, bArith ⟨#[100, 105, 118]⟩, bArith ⟨#[109, 111, 100]⟩, bLess ⟨#[108, 116]⟩, bLess ⟨#[108, 101]⟩]
abbrev pcP (l : List Pr) (a : A) : Pc := ⟨36, 5, l.map Pr.d, a⟩
abbrev pcT0 (l : List Ty) (a : A) : Pc := ⟨135, 3, l.map Ty.d, a⟩
def bNames : List ByteArray := [⟨#[97, 100, 100]⟩, ⟨#[115, 117, 98]⟩, ⟨#[109, 117, 108]⟩, ⟨#[100, 105, 118]⟩, ⟨#[109, 111, 100]⟩, ⟨#[108, 116]⟩, ⟨#[108, 101]⟩]
def bOf (j : Nat) (n : ByteArray) : Pr := if 4 < j then bLess n else bArith n
theorem builtins_at {j : Nat} {n : ByteArray} (h : bNames[j]? = some n) : builtinsL.take (j + 1) = builtinsL.take j ++ [bOf j n] := by
 match j, h with
 | 0, h => cases h; rfl
 | 1, h => cases h; rfl
 | 2, h => cases h; rfl
 | 3, h => cases h; rfl
 | 4, h => cases h; rfl
 | 5, h => cases h; rfl
 | 6, h => cases h; rfl
 | j + 7, h => simp [bNames] at h
set_option maxHeartbeats 8000000 in
theorem preds04_own {eb : EbG} (H : Heap) : ACall Tryd.prog (seatV eb) 54 [] H fun r H' => ∃ b v, r = .own b v ∧ H b = none ∧ v.ownBlock = some b ∧ H' = upd H b (.arr 36 5 v (builtinsL.map Pr.d)) := by
 refine ACall.hp_start ?_
 refine ACall.by mixed fn54 (by simp) ?_
 conv in s54 => cbv
 refine svc_start ?_
 simp -dsimp (maxDischargeDepth := 9) only [go_sem, zA, zB, zC, zD, zE, zF, zG, gS]
 refine newV_hp (fun b6 v6 f6 w6 => ?_)
 simp only [off_cons, off_nil] at f6
 simp -dsimp (maxDischargeDepth := 9) only [go_sem, zA, zB, zC, zD, zE, zF, zG, gS, f6]
 refine newV_hp (fun b7 v7 f7 w7 => ?_)
 simp only [off_cons, off_nil] at f7
 simp -dsimp (maxDischargeDepth := 9) only [go_sem, zA, zB, zC, zD, zE, zF, zG, gS, f6, f7, List.length_cons, List.length_nil]
 have hacc0 : AccN H [] [pcP [] (.own b6 v6)] (upd H b6 (.arr 36 5 v6 [])) := (AccN.none H []).new (by simp only [hpS, eq_self, implies_true, ]) f6 w6
 have h0 : upd H b6 (.arr 36 5 v6 []) b7 = none := upd_eq_none.2 ⟨eqn_false f7.1, f7.2.2⟩
 have hE : bNames.map D.str = [.str ⟨#[97, 100, 100]⟩, .str ⟨#[115, 117, 98]⟩, .str ⟨#[109, 117, 108]⟩, .str ⟨#[100, 105, 118]⟩, .str ⟨#[109, 111, 100]⟩, .str ⟨#[108, 116]⟩, .str ⟨#[108, 101]⟩] := rfl
 have hlen : bNames.length = 7 := rfl
 refine svc_loop (X := Nat × A × Heap) (fun y => [(1, y.2.1), (7, .own b7 v7), (8, .d (.int .i64 ((7 : Nat) : Int))), (9, .d (.int .i64 y.1))])
  (fun y G => G = hp y.2.2 [(b7, .arr 9 1 v7 (bNames.map D.str))] ∧ AccN H [] [pcP (builtinsL.take y.1) y.2.1] y.2.2 ∧ y.2.2 b7 = none ∧ y.1 ≤ 7) (fun y => 7 - y.1) (0, .own b6 v6, upd H b6 (.arr 36 5 v6 [])) _ ⟨rfl, hacc0, h0, Nat.zero_le _⟩ (by simp -dsimp (maxDischargeDepth := 9) only [go_sem, zA, zB, zC, zD, zE, zF, zG, gS]) (by rw [hp_base (by simp only [hpS, eq_self, implies_true, f7])]; exact (leH_hp (by simp only [hpS, eq_self, implies_true, f6, f7, hE, setL_cons, setL_nil]) (by simp only [hpS, eq_self, implies_true, f6, f7, hE, setL_cons, setL_nil]))) ?_
 clear hacc0 h0
 rintro ⟨j, a, R⟩ G ⟨hG, hacc, h7, hj⟩
 simp only at hG hacc h7 hj
 subst hG
 simp -dsimp (maxDischargeDepth := 9) only [go_sem, zA, zB, zC, zD, zE, zF, zG, gS]
 refine gif_split (fun q1 => ?_) (fun q1 => ?_)
 ·have q1' : j < bNames.length := by have := of_decide_eq_true q1; omega
  obtain ⟨n, hx⟩ := list_at q1'
  have hw := wrapN (k := j) (by omega)
  simp -dsimp (maxDischargeDepth := 9) only [go_sem, zA, zB, zC, zD, zE, zF, zG, gS, q1, q1', hx, f7, h7, Option.map_some]
  refine newV_hp (fun b16 v16 f16 w16 => ?_)
  simp only [off_cons, off_nil] at f16
  simp -dsimp (maxDischargeDepth := 9) only [go_sem, zA, zB, zC, zD, zE, zF, zG, gS, f7, h7, f16]
  refine newV_hp (fun b18 v18 f18 w18 => ?_)
  simp only [off_cons, off_nil] at f18
  simp -dsimp (maxDischargeDepth := 9) only [go_sem, zA, zB, zC, zD, zE, zF, zG, gS, f7, h7, f16, f18]
  refine newK_hp (fun b4 f4 => ?_)
  simp only [off_cons, off_nil] at f4
  simp -dsimp (maxDischargeDepth := 9) only [go_sem, zA, zB, zC, zD, zE, zF, zG, gS, f7, h7, f16, f18, f4]
  refine gif_split (fun q3 => ?_) (fun q3 => ?_)
  ·have e3 : 4 < j := by have := of_decide_eq_true q3; omega
   have hb : (bOf j n).d = .agg [.str n, .int .i64 2, .slice ((List.replicate 2 tyInt).map Ty.d), .slice [.agg [.slice [.bool true, .bool true], .int .i64 2]], .slice []] := by rw [bOf, if_pos e3]; rfl
   simp -dsimp (maxDischargeDepth := 9) only [go_sem, zA, zB, zC, zD, zE, zF, zG, gS, q3, f7, h7, f16, f18, f4]
   refine newV_hp (fun b24 v24 f24 w24 => ?_)
   simp only [off_cons, off_nil] at f24
   simp -dsimp (maxDischargeDepth := 9) only [go_sem, zA, zB, zC, zD, zE, zF, zG, gS, f7, h7, f16, f18, f4, f24]
   refine newV_hp (fun b26 v26 f26 w26 => ?_)
   simp only [off_cons, off_nil] at f26
   simp -dsimp (maxDischargeDepth := 9) only [go_sem, zA, zB, zC, zD, zE, zF, zG, gS, f7, h7, f16, f18, f4, f24, f26]
   have h4 := f4.2.2.2.2.2.2
   have hM := f26.2.2.2.2.2.2.2.2.2.2
   refine svc_loop (X := Nat × A × Heap) (fun y => [(1, a), (4, .ref b4 0), (5, .d (.int .i64 y.1)), (7, .own b7 v7), (8, .d (.int .i64 ((7 : Nat) : Int))), (9, .d (.int .i64 j))])
    (fun y G => G = hp y.2.2 [(b7, .arr 9 1 v7 (bNames.map D.str)), (b4, .var [.d (.str n), .d (.int .i64 2), y.2.1, .own b26 v26, .nils]), (b26, .arr 117 2 v26 [.agg [.slice [.bool true, .bool true], .int .i64 2]])] ∧ AccN H [] [pcT0 (List.replicate y.1 tyInt) y.2.1, pcP (builtinsL.take j) a] y.2.2 ∧ (y.2.2 b7 = none ∧ y.2.2 b4 = none ∧ y.2.2 b26 = none) ∧ y.1 ≤ 2) (fun y => 2 - y.1) (0, .nils, R) _ ⟨rfl, hacc.nil _ _, ⟨h7, h4, hM⟩, Nat.zero_le _⟩ (by simp -dsimp (maxDischargeDepth := 9) only [go_sem, zA, zB, zC, zD, zE, zF, zG, gS]) (leH_hp (by simp only [hpS, eq_self, implies_true, f7, h7, f16, f18, f4, f24, f26]) (by simp only [hpS, eq_self, implies_true, f7, h7, f16, f18, f4, f24, f26])) ?_
   rintro ⟨i, tv, R2⟩ G ⟨hG, hacc2, ⟨g7, g4, gM⟩, hi⟩
   simp only at hG hacc2 g7 g4 gM hi
   subst hG
   simp -dsimp (maxDischargeDepth := 9) only [go_sem, zA, zB, zC, zD, zE, zF, zG, gS, f7, f4, f26, g7, g4, gM]
   refine gif_split (fun q2 => ?_) (fun q2 => ?_)
   ·have q2' : i < 2 := by have := of_decide_eq_true q2; omega
    have hwi := wrapN (k := i) (by omega)
    simp -dsimp (maxDischargeDepth := 9) only [go_sem, zA, zB, zC, zD, zE, zF, zG, gS, q2, f7, f4, f26, g7, g4, gM]
    refine newV_hp (fun b38 v38 f38 w38 => ?_)
    simp only [off_cons, off_nil] at f38
    simp -dsimp (maxDischargeDepth := 9) only [go_sem, zA, zB, zC, zD, zE, zF, zG, gS, f7, f4, f26, g7, g4, gM, f38]
    refine AccN.appTo (pre := []) (p := pcT0 (List.replicate i tyInt) tv) (post := [pcP (builtinsL.take j) a]) (ns := [tyInt.d]) hacc2 (by simp only [hpS, eq_self, implies_true, f7, f4, f26, g7, g4, gM, f38]) (by simp only [hpS, eq_self, implies_true, ]) (by simp only [List.length_map, List.length_replicate, List.length_cons, List.length_nil]; omega) (fun tv' R3 hacc3 hn3 => ?_)
    have k7 := hn3 b7 (by simp only [hpS, eq_self, implies_true, f7, f4, f26]) g7
    have k4 := hn3 b4 (by simp only [hpS, eq_self, implies_true, f7, f4, f26]) g4
    have kM := hn3 b26 (by simp only [hpS, eq_self, implies_true, f7, f4, f26]) gM
    have k38 := hn3 b38 (by simp only [hpS, eq_self, implies_true, f7, f4, f26, f38]) f38.2.2.2.2.2.2
    have o1 := AccN.one (pre := []) hacc3
    simp only at o1
    simp -dsimp (maxDischargeDepth := 9) only [go_sem, zA, zB, zC, zD, zE, zF, zG, gS, f7, f4, f26, f38, k7, k4, kM, k38, o1, List.length_cons, List.length_nil, hwi]
    have hacc4 : AccN H [] [pcT0 (List.replicate (i + 1) tyInt) tv', pcP (builtinsL.take j) a] R3 := by
     rw [pcT0, List.replicate_succ', List.map_append]; exact hacc3
    refine roundQ_next (i + 1, tv', R3) _ ⟨rfl, hacc4, ⟨k7, k4, kM⟩, q2'⟩ (by simp only; omega) (by simp -dsimp (maxDischargeDepth := 9) only [go_sem, zA, zB, zC, zD, zE, zF, zG, gS]) (leH_hp (by simp only [hpS, eq_self, implies_true, f7, f4, f26, f38, k7, k4, kM, k38]) (by simp only [hpS, eq_self, implies_true, f7, f4, f26, f38, k7, k4, kM, k38]))
   ·have q2' : i = 2 := by have := of_decide_eq_false q2; omega
    subst q2'
    simp -dsimp (maxDischargeDepth := 9) only [go_sem, zA, zB, zC, zD, zE, zF, zG, gS, q2, f7, f4, f26, g7, g4, gM]
    have hal := AccN.allD (pre := []) (t := [.own b26 v26, .nils]) hacc2
    simp only at hal
    simp -dsimp (maxDischargeDepth := 9) only [go_sem, zA, zB, zC, zD, zE, zF, zG, gS, f7, f4, f26, g7, g4, gM, hal]
    refine AccN.deep (pre := []) (p := pcT0 (List.replicate 2 tyInt) tv) (post := [pcP (builtinsL.take j) a]) hacc2 (by simp only [hpS, eq_self, implies_true, f7, f4, f26, g7, g4, gM]) (fun R4 hacc3 hn3 => ?_)
    have k7 := hn3 b7 g7
    have k4 := hn3 b4 g4
    have kM := hn3 b26 gM
    simp -dsimp (maxDischargeDepth := 9) only [go_sem, zA, zB, zC, zD, zE, zF, zG, gS, f7, f4, f26, k7, k4, kM]
    refine newV_hp (fun b43 v43 f43 w43 => ?_)
    simp only [off_cons, off_nil] at f43
    simp -dsimp (maxDischargeDepth := 9) only [go_sem, zA, zB, zC, zD, zE, zF, zG, gS, f7, f4, f26, k7, k4, kM, f43]
    rw [← hb]
    refine AccN.appTo (pre := []) (p := pcP (builtinsL.take j) a) (post := []) (ns := [(bOf j n).d]) hacc3 (by simp only [hpS, eq_self, implies_true, f7, f4, f26, k7, k4, kM, f43]) (by simp only [hpS, eq_self, implies_true, ]) (by simp only [List.length_map, List.length_take, List.length_cons, List.length_nil]; omega) (fun a' R5 hacc4 hn4 => ?_)
    have m7 := hn4 b7 (by simp only [hpS, eq_self, implies_true, f7, f4, f26]) k7
    have m4 := hn4 b4 (by simp only [hpS, eq_self, implies_true, f7, f4, f26]) k4
    have mM := hn4 b26 (by simp only [hpS, eq_self, implies_true, f7, f4, f26]) kM
    have m43 := hn4 b43 (by simp only [hpS, eq_self, implies_true, f7, f4, f26, f43]) f43.2.2.2.2.2.2
    simp -dsimp (maxDischargeDepth := 9) only [go_sem, zA, zB, zC, zD, zE, zF, zG, gS, f7, f4, f26, f43, m7, m4, mM, m43, hw]
    have hacc5 : AccN H [] [pcP (builtinsL.take (j + 1)) a'] R5 := by
     rw [builtins_at hx, pcP, List.map_append]; exact hacc4
    refine roundQ_next (j + 1, a', R5) _ ⟨rfl, hacc5, m7, by omega⟩ (by simp only; omega) (by simp -dsimp (maxDischargeDepth := 9) only [go_sem, zA, zB, zC, zD, zE, zF, zG, gS]) (leH_hp (by simp only [hpS, eq_self, implies_true, f7, f4, f26, f43, m7, m4, mM, m43]) (by simp only [hpS, eq_self, implies_true, f7, f4, f26, f43, m7, m4, mM, m43]))
  ·have e3 : ¬ 4 < j := by have := of_decide_eq_false q3; omega
   have hb : (bOf j n).d = .agg [.str n, .int .i64 3, .slice ((List.replicate 3 tyInt).map Ty.d), .slice [.agg [.slice [.bool true, .bool true, .bool false], .int .i64 1]], .slice []] := by rw [bOf, if_neg e3]; rfl
   simp -dsimp (maxDischargeDepth := 9) only [go_sem, zA, zB, zC, zD, zE, zF, zG, gS, q3, f7, h7, f16, f18, f4]
   have h4 := f4.2.2.2.2.2.2
   have hM := f18.2.2.2.2
   refine svc_loop (X := Nat × A × Heap) (fun y => [(1, a), (4, .ref b4 0), (5, .d (.int .i64 y.1)), (7, .own b7 v7), (8, .d (.int .i64 ((7 : Nat) : Int))), (9, .d (.int .i64 j))])
    (fun y G => G = hp y.2.2 [(b7, .arr 9 1 v7 (bNames.map D.str)), (b4, .var [.d (.str n), .d (.int .i64 3), y.2.1, .own b18 v18, .nils]), (b18, .arr 117 2 v18 [.agg [.slice [.bool true, .bool true, .bool false], .int .i64 1]])] ∧ AccN H [] [pcT0 (List.replicate y.1 tyInt) y.2.1, pcP (builtinsL.take j) a] y.2.2 ∧ (y.2.2 b7 = none ∧ y.2.2 b4 = none ∧ y.2.2 b18 = none) ∧ y.1 ≤ 3) (fun y => 3 - y.1) (0, .nils, R) _ ⟨rfl, hacc.nil _ _, ⟨h7, h4, hM⟩, Nat.zero_le _⟩ (by simp -dsimp (maxDischargeDepth := 9) only [go_sem, zA, zB, zC, zD, zE, zF, zG, gS]) (leH_hp (by simp only [hpS, eq_self, implies_true, f7, h7, f16, f18, f4]) (by simp only [hpS, eq_self, implies_true, f7, h7, f16, f18, f4])) ?_
   rintro ⟨i, tv, R2⟩ G ⟨hG, hacc2, ⟨g7, g4, gM⟩, hi⟩
   simp only at hG hacc2 g7 g4 gM hi
   subst hG
   simp -dsimp (maxDischargeDepth := 9) only [go_sem, zA, zB, zC, zD, zE, zF, zG, gS, f7, f4, f18, g7, g4, gM]
   refine gif_split (fun q2 => ?_) (fun q2 => ?_)
   ·have q2' : i < 3 := by have := of_decide_eq_true q2; omega
    have hwi := wrapN (k := i) (by omega)
    simp -dsimp (maxDischargeDepth := 9) only [go_sem, zA, zB, zC, zD, zE, zF, zG, gS, q2, f7, f4, f18, g7, g4, gM]
    refine newV_hp (fun b38 v38 f38 w38 => ?_)
    simp only [off_cons, off_nil] at f38
    simp -dsimp (maxDischargeDepth := 9) only [go_sem, zA, zB, zC, zD, zE, zF, zG, gS, f7, f4, f18, g7, g4, gM, f38]
    refine AccN.appTo (pre := []) (p := pcT0 (List.replicate i tyInt) tv) (post := [pcP (builtinsL.take j) a]) (ns := [tyInt.d]) hacc2 (by simp only [hpS, eq_self, implies_true, f7, f4, f18, g7, g4, gM, f38]) (by simp only [hpS, eq_self, implies_true, ]) (by simp only [List.length_map, List.length_replicate, List.length_cons, List.length_nil]; omega) (fun tv' R3 hacc3 hn3 => ?_)
    have k7 := hn3 b7 (by simp only [hpS, eq_self, implies_true, f7, f4, f18]) g7
    have k4 := hn3 b4 (by simp only [hpS, eq_self, implies_true, f7, f4, f18]) g4
    have kM := hn3 b18 (by simp only [hpS, eq_self, implies_true, f7, f4, f18]) gM
    have k38 := hn3 b38 (by simp only [hpS, eq_self, implies_true, f7, f4, f18, f38]) f38.2.2.2.2.2.2
    have o1 := AccN.one (pre := []) hacc3
    simp only at o1
    simp -dsimp (maxDischargeDepth := 9) only [go_sem, zA, zB, zC, zD, zE, zF, zG, gS, f7, f4, f18, f38, k7, k4, kM, k38, o1, List.length_cons, List.length_nil, hwi]
    have hacc4 : AccN H [] [pcT0 (List.replicate (i + 1) tyInt) tv', pcP (builtinsL.take j) a] R3 := by
     rw [pcT0, List.replicate_succ', List.map_append]; exact hacc3
    refine roundQ_next (i + 1, tv', R3) _ ⟨rfl, hacc4, ⟨k7, k4, kM⟩, q2'⟩ (by simp only; omega) (by simp -dsimp (maxDischargeDepth := 9) only [go_sem, zA, zB, zC, zD, zE, zF, zG, gS]) (leH_hp (by simp only [hpS, eq_self, implies_true, f7, f4, f18, f38, k7, k4, kM, k38]) (by simp only [hpS, eq_self, implies_true, f7, f4, f18, f38, k7, k4, kM, k38]))
   ·have q2' : i = 3 := by have := of_decide_eq_false q2; omega
    subst q2'
    simp -dsimp (maxDischargeDepth := 9) only [go_sem, zA, zB, zC, zD, zE, zF, zG, gS, q2, f7, f4, f18, g7, g4, gM]
    have hal := AccN.allD (pre := []) (t := [.own b18 v18, .nils]) hacc2
    simp only at hal
    simp -dsimp (maxDischargeDepth := 9) only [go_sem, zA, zB, zC, zD, zE, zF, zG, gS, f7, f4, f18, g7, g4, gM, hal]
    refine AccN.deep (pre := []) (p := pcT0 (List.replicate 3 tyInt) tv) (post := [pcP (builtinsL.take j) a]) hacc2 (by simp only [hpS, eq_self, implies_true, f7, f4, f18, g7, g4, gM]) (fun R4 hacc3 hn3 => ?_)
    have k7 := hn3 b7 g7
    have k4 := hn3 b4 g4
    have kM := hn3 b18 gM
    simp -dsimp (maxDischargeDepth := 9) only [go_sem, zA, zB, zC, zD, zE, zF, zG, gS, f7, f4, f18, k7, k4, kM]
    refine newV_hp (fun b43 v43 f43 w43 => ?_)
    simp only [off_cons, off_nil] at f43
    simp -dsimp (maxDischargeDepth := 9) only [go_sem, zA, zB, zC, zD, zE, zF, zG, gS, f7, f4, f18, k7, k4, kM, f43]
    rw [← hb]
    refine AccN.appTo (pre := []) (p := pcP (builtinsL.take j) a) (post := []) (ns := [(bOf j n).d]) hacc3 (by simp only [hpS, eq_self, implies_true, f7, f4, f18, k7, k4, kM, f43]) (by simp only [hpS, eq_self, implies_true, ]) (by simp only [List.length_map, List.length_take, List.length_cons, List.length_nil]; omega) (fun a' R5 hacc4 hn4 => ?_)
    have m7 := hn4 b7 (by simp only [hpS, eq_self, implies_true, f7, f4, f18]) k7
    have m4 := hn4 b4 (by simp only [hpS, eq_self, implies_true, f7, f4, f18]) k4
    have mM := hn4 b18 (by simp only [hpS, eq_self, implies_true, f7, f4, f18]) kM
    have m43 := hn4 b43 (by simp only [hpS, eq_self, implies_true, f7, f4, f18, f43]) f43.2.2.2.2.2.2
    simp -dsimp (maxDischargeDepth := 9) only [go_sem, zA, zB, zC, zD, zE, zF, zG, gS, f7, f4, f18, f43, m7, m4, mM, m43, hw]
    have hacc5 : AccN H [] [pcP (builtinsL.take (j + 1)) a'] R5 := by
     rw [builtins_at hx, pcP, List.map_append]; exact hacc4
    refine roundQ_next (j + 1, a', R5) _ ⟨rfl, hacc5, m7, by omega⟩ (by simp only; omega) (by simp -dsimp (maxDischargeDepth := 9) only [go_sem, zA, zB, zC, zD, zE, zF, zG, gS]) (leH_hp (by simp only [hpS, eq_self, implies_true, f7, f4, f18, f43, m7, m4, mM, m43]) (by simp only [hpS, eq_self, implies_true, f7, f4, f18, f43, m7, m4, mM, m43]))
 ·have q1' : j = 7 := by have := of_decide_eq_false q1; omega
  subst q1'
  simp -dsimp (maxDischargeDepth := 9) only [go_sem, zA, zB, zC, zD, zE, zF, zG, gS, q1, f7, h7]
  rcases AccN.mid (pre := []) hacc with ⟨e1, _⟩ | ⟨b, v, ha, _, hb, hv, hR⟩
  ·cases e1
  ·simp only at ha hR
   subst ha
   have h7H := hacc.le.free h7
   have hbo := AccN.out (pre := []) (l := [(b7, .arr 9 1 v7 (bNames.map D.str))]) hacc (by simp only [hpS, eq_self, implies_true, h7]) rfl
   refine retW_drop (G := upd H b (.arr 36 5 v (builtinsL.map Pr.d))) ?_ (retW_is ⟨b, v, rfl, hb, hv, rfl⟩)
   refine leH_upd_l (by rw [hp_not hbo]; exact hR) fun k o _ hk => ((leH_hp02 hacc.le (by simp only [hpS, eq_self, implies_true, h7, h7H]))) k o hk
theorem preds04 {eb : EbG} (H : Heap) : ACall Tryd.prog (seatV eb) 54 [] H fun r H' => r = .d (.slice (builtinsL.map Pr.d)) ∧ H' = H :=
 ACall.keep (ACall.deepen ((preds04_own _).mono fun r H' ⟨b, v, e1, _, _, e2⟩ => by
  subst e1; subst e2
  simp only [deepK, upd, if_pos, true_and]))
set_option maxHeartbeats 8000000 in
theorem builtins50_ok {eb : EbG} (H : Heap) (K : A → Heap → Prop) (hK : K (.d (.slice (builtinsL.map Pr.d))) H) : ACall Tryd.prog (seatV eb) 50 [] H K := by
 refine ACall.hp_start ?_
 refine ACall.by mixed fn50 (by simp) ?_
 conv in s50 => cbv
 refine svc_start ?_
 simp -dsimp (maxDischargeDepth := 9) only [go_sem, zA, zB, zC, zD, zE, zF, zG, gS]
 refine newK_hp (fun b1 f1 => ?_)
 simp only [off_cons, off_nil] at f1
 simp -dsimp (maxDischargeDepth := 9) only [go_sem, zA, zB, zC, zD, zE, zF, zG, gS, f1]
 refine newV_hp (fun b8 v8 f8 w8 => ?_)
 simp only [off_cons, off_nil] at f8
 simp -dsimp (maxDischargeDepth := 9) only [go_sem, zA, zB, zC, zD, zE, zF, zG, gS, f1, f8, List.length_cons, List.length_nil]
 have hE8 : ((bNames.drop 0).take 5).map D.str = [.str ⟨#[97, 100, 100]⟩, .str ⟨#[115, 117, 98]⟩, .str ⟨#[109, 117, 108]⟩, .str ⟨#[100, 105, 118]⟩, .str ⟨#[109, 111, 100]⟩] := rfl
 have hE28 : ((bNames.drop 5).take 2).map D.str = [.str ⟨#[108, 116]⟩, .str ⟨#[108, 101]⟩] := rfl
 have h1 := f1
 have h8 := f8.2.2
 refine svc_loop (X := Nat × A × Heap) (fun y => [(1, .ref b1 0), (2, y.2.1), (8, .own b8 v8), (9, .d (.int .i64 ((5 : Nat) : Int))), (10, .d (.int .i64 y.1))])
  (fun y G => G = hp y.2.2 [(b1, .var [.d (.bool false), .d (.str kInt), .nils]), (b8, .arr 9 1 v8 (((bNames.drop 0).take 5).map D.str))] ∧ AccN H [] [pcP (builtinsL.take (0 + y.1)) y.2.1] y.2.2 ∧ (y.2.2 b1 = none ∧ y.2.2 b8 = none) ∧ y.1 ≤ 5) (fun y => 5 - y.1) (0, .nils, H) _ ⟨rfl, (AccN.none H []).nil _ _, ⟨h1, h8⟩, Nat.zero_le _⟩ (by simp -dsimp (maxDischargeDepth := 9) only [go_sem, zA, zB, zC, zD, zE, zF, zG, gS]) (leH_hp (by simp only [hpS, eq_self, implies_true, f1, f8, hE8, kInt]) (by simp only [hpS, eq_self, implies_true, f1, f8, hE8, kInt])) ?_
 rintro ⟨j, a, R⟩ G ⟨hG, hacc, ⟨g1, g8⟩, hj⟩
 simp only at hG hacc g1 g8 hj
 subst hG
 simp -dsimp (maxDischargeDepth := 9) only [go_sem, zA, zB, zC, zD, zE, zF, zG, gS]
 refine gif_split (fun q1 => ?_) (fun q1 => ?_)
 ·have q1' : j < 5 := by have := of_decide_eq_true q1; omega
  have hlj : j < ((bNames.drop 0).take 5).length := q1'
  obtain ⟨n, hx⟩ := list_at hlj
  have hx2 : bNames[0 + j]? = some n := by
   rw [List.getElem?_take_of_lt q1', List.getElem?_drop] at hx; exact hx
  have hx0 : (bNames.take 5)[j]? = some n := hx
  have hlj0 : j < (bNames.take 5).length := hlj
  have hw := wrapN (k := j) (by omega)
  have hb : (bOf (0 + j) n).d = .agg [.str n, .int .i64 3, .slice [tyInt.d, tyInt.d, tyInt.d], .slice [.agg [.slice [.bool true, .bool true, .bool false], .int .i64 1]], .slice []] := by
   rw [bOf, if_neg (by omega)]; rfl
  have hty : tyInt.d = .agg [.bool false, .str kInt, .slice []] := rfl
  rw [hty] at hb
  simp -dsimp (maxDischargeDepth := 9) only [go_sem, zA, zB, zC, zD, zE, zF, zG, gS, q1, hlj0, hx0, g1, g8, f1, f8, Option.map_some]
  refine newV_hp (fun b20 v20 f20 w20 => ?_)
  simp only [off_cons, off_nil] at f20
  simp -dsimp (maxDischargeDepth := 9) only [go_sem, zA, zB, zC, zD, zE, zF, zG, gS, g1, g8, f1, f8, f20]
  refine newV_hp (fun b21 v21 f21 w21 => ?_)
  simp only [off_cons, off_nil] at f21
  simp -dsimp (maxDischargeDepth := 9) only [go_sem, zA, zB, zC, zD, zE, zF, zG, gS, g1, g8, f1, f8, f20, f21]
  refine newV_hp (fun b23 v23 f23 w23 => ?_)
  simp only [off_cons, off_nil] at f23
  simp -dsimp (maxDischargeDepth := 9) only [go_sem, zA, zB, zC, zD, zE, zF, zG, gS, g1, g8, f1, f8, f20, f21, f23]
  refine newV_hp (fun b25 v25 f25 w25 => ?_)
  simp only [off_cons, off_nil] at f25
  simp -dsimp (maxDischargeDepth := 9) only [go_sem, zA, zB, zC, zD, zE, zF, zG, gS, g1, g8, f1, f8, f20, f21, f23, f25]
  rw [← hb]
  refine AccN.appTo (pre := []) (p := pcP (builtinsL.take (0 + j)) a) (post := []) (ns := [(bOf (0 + j) n).d]) hacc (by simp only [hpS, eq_self, implies_true, g1, g8, f1, f8, f20, f21, f23, f25]) (by simp only [hpS, eq_self, implies_true, ]) (by simp only [List.length_map, List.length_take, List.length_cons, List.length_nil]; omega) (fun a' R5 hacc4 hn4 => ?_)
  have m1 := hn4 b1 (by simp only [hpS, eq_self, implies_true, f1, f8]) g1
  have m2 := hn4 b8 (by simp only [hpS, eq_self, implies_true, f1, f8]) g8
  have x0 := hn4 b20 (by simp only [hpS, eq_self, implies_true, f1, f8, f20]) f20.2.2.2.2
  have x1 := hn4 b21 (by simp only [hpS, eq_self, implies_true, f1, f8, f20, f21]) f21.2.2.2.2.2.2
  have x2 := hn4 b23 (by simp only [hpS, eq_self, implies_true, f1, f8, f20, f21, f23]) f23.2.2.2.2.2.2.2.2
  have x3 := hn4 b25 (by simp only [hpS, eq_self, implies_true, f1, f8, f20, f21, f23, f25]) f25.2.2.2.2.2.2.2.2.2.2
  simp -dsimp (maxDischargeDepth := 9) only [go_sem, zA, zB, zC, zD, zE, zF, zG, gS, f1, f8, f20, f21, f23, f25, m1, m2, x0, x1, x2, x3, hw]
  have hacc5 : AccN H [] [pcP (builtinsL.take (0 + (j + 1))) a'] R5 := by
   rw [← Nat.add_assoc, builtins_at hx2, pcP, List.map_append]; exact hacc4
  have hacc6 : AccN H [] [pcP (builtinsL.take (j + 1)) a'] R5 := by simpa only [Nat.zero_add] using hacc5
  refine roundQ_next (j + 1, a', R5) _ ⟨rfl, hacc6, ⟨m1, m2⟩, by omega⟩ (by simp only; omega) (by simp -dsimp (maxDischargeDepth := 9) only [go_sem, zA, zB, zC, zD, zE, zF, zG, gS]) (leH_hp (by simp only [hpS, eq_self, implies_true, f1, f8, f20, f21, f23, f25, m1, m2, x0, x1, x2, x3]) (by simp only [hpS, eq_self, implies_true, f1, f8, f20, f21, f23, f25, m1, m2, x0, x1, x2, x3]))
 ·have q1' : j = 5 := by have := of_decide_eq_false q1; omega
  subst q1'
  simp -dsimp (maxDischargeDepth := 9) only [go_sem, zA, zB, zC, zD, zE, zF, zG, gS, q1, f1, f8, g1, g8]
  refine newV_hp (fun b28 v28 f28 w28 => ?_)
  simp only [off_cons, off_nil] at f28
  have h28 := f28.2.2.2.2
  simp -dsimp (maxDischargeDepth := 9) only [go_sem, zA, zB, zC, zD, zE, zF, zG, gS, f1, f8, g1, g8, f28, List.length_cons, List.length_nil]
  clear hj q1
  refine svc_loop (X := Nat × A × Heap) (fun y => [(1, .ref b1 0), (2, y.2.1), (28, .own b28 v28), (29, .d (.int .i64 ((2 : Nat) : Int))), (30, .d (.int .i64 y.1))])
   (fun y G => G = hp y.2.2 [(b1, .var [.d (.bool false), .d (.str kInt), .nils]), (b28, .arr 9 1 v28 (((bNames.drop 5).take 2).map D.str))] ∧ AccN H [] [pcP (builtinsL.take (5 + y.1)) y.2.1] y.2.2 ∧ (y.2.2 b1 = none ∧ y.2.2 b28 = none) ∧ y.1 ≤ 2) (fun y => 2 - y.1) (0, a, R) _ ⟨rfl, hacc, ⟨g1, h28⟩, Nat.zero_le _⟩ (by simp -dsimp (maxDischargeDepth := 9) only [go_sem, zA, zB, zC, zD, zE, zF, zG, gS]) (leH_hp (by simp only [hpS, eq_self, implies_true, f1, f8, g1, g8, f28, hE28]) (by simp only [hpS, eq_self, implies_true, f1, f8, g1, g8, f28, hE28])) ?_
  rintro ⟨j, a2, R2⟩ G ⟨hG, hacc2, ⟨g1, g28⟩, hj⟩
  simp only at hG hacc2 g1 g28 hj
  subst hG
  simp -dsimp (maxDischargeDepth := 9) only [go_sem, zA, zB, zC, zD, zE, zF, zG, gS]
  refine gif_split (fun q1 => ?_) (fun q1 => ?_)
  ·have q1' : j < 2 := by have := of_decide_eq_true q1; omega
   have hlj : j < ((bNames.drop 5).take 2).length := q1'
   obtain ⟨n, hx⟩ := list_at hlj
   have hx2 : bNames[5 + j]? = some n := by
    rw [List.getElem?_take_of_lt q1', List.getElem?_drop] at hx; exact hx
   have hw := wrapN (k := j) (by omega)
   have hb : (bOf (5 + j) n).d = .agg [.str n, .int .i64 2, .slice [tyInt.d, tyInt.d], .slice [.agg [.slice [.bool true, .bool true], .int .i64 2]], .slice []] := by
    rw [bOf, if_pos (by omega)]; rfl
   have hty : tyInt.d = .agg [.bool false, .str kInt, .slice []] := rfl
   rw [hty] at hb
   simp -dsimp (maxDischargeDepth := 9) only [go_sem, zA, zB, zC, zD, zE, zF, zG, gS, q1, hlj, hx, g1, g28, f1, f28, Option.map_some]
   refine newV_hp (fun b39 v39 f39 w39 => ?_)
   simp only [off_cons, off_nil] at f39
   simp -dsimp (maxDischargeDepth := 9) only [go_sem, zA, zB, zC, zD, zE, zF, zG, gS, g1, g28, f1, f28, f39]
   refine newV_hp (fun b40 v40 f40 w40 => ?_)
   simp only [off_cons, off_nil] at f40
   simp -dsimp (maxDischargeDepth := 9) only [go_sem, zA, zB, zC, zD, zE, zF, zG, gS, g1, g28, f1, f28, f39, f40]
   refine newV_hp (fun b42 v42 f42 w42 => ?_)
   simp only [off_cons, off_nil] at f42
   simp -dsimp (maxDischargeDepth := 9) only [go_sem, zA, zB, zC, zD, zE, zF, zG, gS, g1, g28, f1, f28, f39, f40, f42]
   refine newV_hp (fun b44 v44 f44 w44 => ?_)
   simp only [off_cons, off_nil] at f44
   simp -dsimp (maxDischargeDepth := 9) only [go_sem, zA, zB, zC, zD, zE, zF, zG, gS, g1, g28, f1, f28, f39, f40, f42, f44]
   rw [← hb]
   refine AccN.appTo (pre := []) (p := pcP (builtinsL.take (5 + j)) a2) (post := []) (ns := [(bOf (5 + j) n).d]) hacc2 (by simp only [hpS, eq_self, implies_true, g1, g28, f1, f28, f39, f40, f42, f44]) (by simp only [hpS, eq_self, implies_true, ]) (by simp only [List.length_map, List.length_take, List.length_cons, List.length_nil]; omega) (fun a' R5 hacc4 hn4 => ?_)
   have m1 := hn4 b1 (by simp only [hpS, eq_self, implies_true, f1, f28]) g1
   have m2 := hn4 b28 (by simp only [hpS, eq_self, implies_true, f1, f28]) g28
   have x0 := hn4 b39 (by simp only [hpS, eq_self, implies_true, f1, f28, f39]) f39.2.2.2.2
   have x1 := hn4 b40 (by simp only [hpS, eq_self, implies_true, f1, f28, f39, f40]) f40.2.2.2.2.2.2
   have x2 := hn4 b42 (by simp only [hpS, eq_self, implies_true, f1, f28, f39, f40, f42]) f42.2.2.2.2.2.2.2.2
   have x3 := hn4 b44 (by simp only [hpS, eq_self, implies_true, f1, f28, f39, f40, f42, f44]) f44.2.2.2.2.2.2.2.2.2.2
   simp -dsimp (maxDischargeDepth := 9) only [go_sem, zA, zB, zC, zD, zE, zF, zG, gS, f1, f28, f39, f40, f42, f44, m1, m2, x0, x1, x2, x3, hw]
   have hacc5 : AccN H [] [pcP (builtinsL.take (5 + (j + 1))) a'] R5 := by
    rw [← Nat.add_assoc, builtins_at hx2, pcP, List.map_append]; exact hacc4
   refine roundQ_next (j + 1, a', R5) _ ⟨rfl, hacc5, ⟨m1, m2⟩, by omega⟩ (by simp only; omega) (by simp -dsimp (maxDischargeDepth := 9) only [go_sem, zA, zB, zC, zD, zE, zF, zG, gS]) (leH_hp (by simp only [hpS, eq_self, implies_true, f1, f28, f39, f40, f42, f44, m1, m2, x0, x1, x2, x3]) (by simp only [hpS, eq_self, implies_true, f1, f28, f39, f40, f42, f44, m1, m2, x0, x1, x2, x3]))
  ·have q1' : j = 2 := by have := of_decide_eq_false q1; omega
   subst q1'
   simp -dsimp (maxDischargeDepth := 9) only [go_sem, zA, zB, zC, zD, zE, zF, zG, gS, q1, f1, f28, g1, g28]
   refine retW_deep ?_
   refine AccN.deep (pre := []) (p := pcP (builtinsL.take (5 + 2)) a2) (post := []) hacc2 (by simp only [hpS, eq_self, implies_true, f1, f28, g1, g28]) (fun R4 hacc3 hn3 => ?_)
   have k1 := hn3 b1 g1
   have k28 := hn3 b28 g28
   have k1H := hacc2.le.free g1
   have k28H := hacc2.le.free g28
   exact retW_drop (G := H) (leH_hp02 hacc3.le (by simp only [hpS, eq_self, implies_true, k1, k28, k1H, k28H])) (retW_is hK)
end Go.Aug

/- The layer of names: predicates that are built in; what terms, types and goals name. -/
namespace Go.Aug
open Nat renaming reduceBEq → zA, reduceLT → zB, reduceAdd → zC, reduceSub → zD, reduceMul → zE, reduceLeDiff → zF
open Int renaming reduceLE → zG
open Go.Proofs
set_option maxRecDepth 100000
set_option linter.unusedSimpArgs false
attribute [local irreducible] hid andK letA onSome onVar onArr arrOnly onInt onBool onFunc onTup idxA ldV ldD addO appTo fillL slA srcK nilQ retW gif sgd sguard svc sops sdops sagain aopO aLoad aStore aBin aUn aConv aLen aIndexAddr aIndex aIndexAddrS aIndexS aSlice aAppend aBuild aBuildSlice aMakeSlice aField aFieldOf aCallOp deepK deepL frzM putE newK newV growV ACall roundQ thenQ inBlockQ sret cnd szs nilC onMap onRow aLookup aMapUpdate aMakeMap
attribute [local go_sem] Int.natCast_zero
theorem preds04_ok {eb : EbG} (H : Heap) (K : A → Heap → Prop) (hK : K (.d (.slice (builtinsL.map Pr.d))) H) : ACall Tryd.prog (seatV eb) 54 [] H K :=
 (preds04 H).mono fun _ _ ⟨h1, h2⟩ => by rw [h1, h2]; exact hK
def isBuiltin (k : Ky) : Bool := builtinsL.any fun p => Ky.eqb p.key k
theorem builtin04_ok {eb : EbG} (H : Heap) (q : Ky) (K : A → Heap → Prop) (hK : K (.d (.bool (isBuiltin q))) H) :
  ACall Tryd.prog (seatV eb) 40 [.d q.d] H K := by
 refine ACall.hp_start ?_
 refine ACall.by mixed fn40 (by simp) ?_
 conv in s40 => cbv
 refine svc_start ?_
 simp -dsimp (maxDischargeDepth := 9) only [go_sem, zA, zB, zC, zD, zE, zF, zG, gS, Ky.d, Ky.cs]
 refine newK_hp (fun b1 f1 => ?_)
 simp only [off_cons, off_nil] at f1
 simp -dsimp (maxDischargeDepth := 9) only [go_sem, zA, zB, zC, zD, zE, zF, zG, gS, f1]
 refine preds04_ok _ _ ?_
 have hlen : builtinsL.length = 7 := rfl
 unfold isBuiltin at hK
 generalize builtinsL = l at hlen hK ⊢
 simp -dsimp (maxDischargeDepth := 9) only [go_sem, zA, zB, zC, zD, zE, zF, zG, gS, f1]
 refine svc_loop (X := Nat) (fun k => [(1, .ref b1 0), (5, .d (.slice (l.map Pr.d))), (6, .d (.int .i64 l.length)), (7, .d (.int .i64 k))])
  (fun k G => G = hp H [(b1, .var [.d (.str q.name), .d (.int .i64 q.ar)])] ∧ k ≤ l.length ∧ ((l.drop k).any fun p => Ky.eqb p.key q) = l.any fun p => Ky.eqb p.key q) (fun k => l.length - k) 0 _ ⟨rfl, by omega, rfl⟩ (by simp -dsimp (maxDischargeDepth := 9) only [go_sem, zA, zB, zC, zD, zE, zF, zG, gS]) (.refl _) ?_
 rintro k G ⟨rfl, hk, hrun⟩
 simp -dsimp (maxDischargeDepth := 9) only [go_sem, zA, zB, zC, zD, zE, zF, zG, gS]
 refine gif_split (fun g1 => ?_) (fun g1 => ?_)
 ·have g1' : k < l.length := by have := of_decide_eq_true g1; omega
  obtain ⟨p, hx⟩ := list_at g1'
  have hw := wrapN (k := k) (by omega)
  rw [drop_at hx, List.any_cons] at hrun
  simp -dsimp (maxDischargeDepth := 9) only [go_sem, zA, zB, zC, zD, zE, zF, zG, gS, g1, hx, Pr.d, Pr.cs]
  refine newK_hp (fun b4 f4 => ?_)
  simp only [off_cons, off_nil] at f4
  simp -dsimp (maxDischargeDepth := 9) only [go_sem, zA, zB, zC, zD, zE, zF, zG, gS, f1, f4]
  refine gif_split (fun g2 => ?_) (fun g2 => ?_)
  ·have hy : Ky.eqb p.key q = true := by simp only [Ky.eqb]; simpa using g2
   rw [hy, Bool.true_or] at hrun
   rw [← hrun] at hK
   simp -dsimp (maxDischargeDepth := 9) only [go_sem, zA, zB, zC, zD, zE, zF, zG, gS, g2]
   exact retW_drop (G := H) (leH_hp0 (by simp only [hpS, eq_self, implies_true, f1, f4])) (retW_is hK)
  ·have hy : Ky.eqb p.key q = false := by simp only [Ky.eqb]; simpa using g2
   rw [hy, Bool.false_or] at hrun
   simp -dsimp (maxDischargeDepth := 9) only [go_sem, zA, zB, zC, zD, zE, zF, zG, gS, g2, hw]
   exact roundQ_next (k + 1) _ ⟨rfl, g1', hrun⟩ (by omega) (by simp -dsimp (maxDischargeDepth := 9) only [go_sem, zA, zB, zC, zD, zE, zF, zG, gS]) (leH_hp (by simp only [hpS, eq_self, implies_true, f1, f4]) (by simp only [hpS, eq_self, implies_true, f1, f4]))
 ·rw [drop_end (by have := of_decide_eq_false g1; omega)] at hrun
  rw [← hrun] at hK
  simp -dsimp (maxDischargeDepth := 9) only [go_sem, zA, zB, zC, zD, zE, zF, zG, gS, g1]
  exact retW_drop (G := H) (leH_hp0 (by simp only [hpS, eq_self, implies_true, f1])) (retW_is hK)
mutual
def Tm.small : Tm → Prop
 | .mk _ _ _ xs => xs.length ≤ 32768 ∧ Tm.smalls xs
def Tm.smalls : List Tm → Prop
 | [] => True
 | t :: ts => t.small ∧ Tm.smalls ts
end
theorem Tm.smalls_mem : ∀ {ts : List Tm}, Tm.smalls ts → ∀ t ∈ ts, t.small
 | _ :: _, h, _, .head _ => h.1
 | _ :: _, h, t, .tail _ ht => Tm.smalls_mem h.2 t ht
mutual
def tmOk (l : List It) : Tm → Bool
 | .mk k n _ xs => (!decide (k = 3) || decide ((0 : Int) < (rctors l ⟨n, xs.length⟩ : Int))) && tmOks l xs
def tmOks (l : List It) : List Tm → Bool
 | [] => true
 | t :: ts => tmOk l t && tmOks l ts
end
/-- A source whose rows are not too long. -/
structure Src (l : List It) : Prop where
 len : l.length ≤ 1048576
 ctors : ∀ it ∈ l, it.ctors.length ≤ 32768
set_option maxHeartbeats 1000000 in
theorem term04_ok {eb : EbG} (l : List It) (hl : Src l) : ∀ (n : Nat) (t : Tm), _root_.SizeOf.sizeOf t ≤ n → t.small → ∀ (H : Heap) (K : A → Heap → Prop), K (.d (.bool (tmOk l t))) H →
  ACall Tryd.prog (seatV eb) 108 [.d (.slice (l.map It.d)), .d t.d] H K
 | 0, .mk k nm i xs, hn, _, _, _, _ => by simp at hn
 | n + 1, .mk k nm i xs, hn, hs, H, K, hK => by
  simp only [Tm.small] at hs
  simp only [tmOk] at hK
  have ih : ∀ t ∈ xs, ∀ (H : Heap) (K : A → Heap → Prop), K (.d (.bool (tmOk l t))) H → ACall Tryd.prog (seatV eb) 108 [.d (.slice (l.map It.d)), .d t.d] H K := fun t ht H K hK =>
   term04_ok l hl n t (by have := List.sizeOf_lt_of_mem ht; simp only [Tm.mk.sizeOf_spec] at hn; omega) (Tm.smalls_mem hs.2 t ht) H K hK
  refine ACall.hp_start ?_
  refine ACall.by mixed fn108 (by simp) ?_
  conv in s108 => cbv
  refine svc_start ?_
  simp -dsimp (maxDischargeDepth := 9) only [go_sem, zA, zB, zC, zD, zE, zF, zG, gS, Tm.d, Tm.cs, Tm.ds_map]
  refine newK_hp (fun b3 f3 => ?_)
  simp only [off_cons, off_nil] at f3
  simp -dsimp (maxDischargeDepth := 9) only [go_sem, zA, zB, zC, zD, zE, zF, zG, gS, f3]
  refine (fun (key : (?T : Prop)) => ?main) ?rest
  case main =>
   refine gif_split (fun g1 => ?_) (fun g1 => ?_)
   ·simp -dsimp (maxDischargeDepth := 9) only [go_sem, zA, zB, zC, zD, zE, zF, zG, gS, f3, g1]
    refine svc_loop (X := Nat × Bool) (fun x => [(0, .d (.slice (l.map It.d))), (5, .d (.bool x.2)), (23, .d (.slice (xs.map Tm.d))), (24, .d (.int .i64 xs.length)), (25, .d (.int .i64 x.1))])
     (fun x G => G = hp H [] ∧ x.1 ≤ xs.length ∧ (x.2 && tmOks l (xs.drop x.1)) = ((!decide (k = 3) || decide ((0 : Int) < (rctors l ⟨nm, xs.length⟩ : Int))) && tmOks l xs)) (fun x => xs.length - x.1) (0, true) _ ⟨rfl, by simp, by simp only [g1, Bool.true_or, List.drop_zero]⟩ (by simp -dsimp (maxDischargeDepth := 9) only [go_sem, zA, zB, zC, zD, zE, zF, zG, gS]) ((leH_hp0 (by simp only [hpS, eq_self, implies_true, f3]))) ?_
    exact key
   ·simp -dsimp (maxDischargeDepth := 9) only [go_sem, zA, zB, zC, zD, zE, zF, zG, gS, f3, g1]
    refine ctors_ok _ l hl.len hl.ctors ⟨nm, xs.length⟩ _ ?_
    simp -dsimp (maxDischargeDepth := 9) only [go_sem, zA, zB, zC, zD, zE, zF, zG, gS, f3]
    refine svc_loop (X := Nat × Bool) (fun x => [(0, .d (.slice (l.map It.d))), (5, .d (.bool x.2)), (23, .d (.slice (xs.map Tm.d))), (24, .d (.int .i64 xs.length)), (25, .d (.int .i64 x.1))])
     (fun x G => G = hp H [] ∧ x.1 ≤ xs.length ∧ (x.2 && tmOks l (xs.drop x.1)) = ((!decide (k = 3) || decide ((0 : Int) < (rctors l ⟨nm, xs.length⟩ : Int))) && tmOks l xs)) (fun x => xs.length - x.1) (0, decide ((0 : Int) < (rctors l ⟨nm, xs.length⟩ : Int))) _ ⟨rfl, by simp, by simp only [g1, Bool.false_or, List.drop_zero]⟩ (by simp -dsimp (maxDischargeDepth := 9) only [go_sem, zA, zB, zC, zD, zE, zF, zG, gS]) ((leH_hp0 (by simp only [hpS, eq_self, implies_true, f3]))) ?_
    exact key
  case rest =>
   rintro ⟨j, b⟩ G ⟨hG, hj, hrun⟩
   simp only at hj hrun
   rw [hG]
   simp -dsimp (maxDischargeDepth := 9) only [go_sem, zA, zB, zC, zD, zE, zF, zG, gS]
   refine gif_split (fun g1 => ?_) (fun g1 => ?_)
   ·have g1' : j < xs.length := by have := of_decide_eq_true g1; omega
    obtain ⟨⟨tk, tn, ti, ta⟩, hx⟩ := list_at g1'
    have hw := wrapN (k := j) (by omega)
    rw [drop_at hx] at hrun
    simp only [tmOks] at hrun
    simp -dsimp (maxDischargeDepth := 9) only [go_sem, zA, zB, zC, zD, zE, zF, zG, gS, g1, hx, Tm.d, Tm.cs]
    refine newK_hp (fun b7 f7 => ?_)
    simp only [off_cons, off_nil] at f7
    simp -dsimp (maxDischargeDepth := 9) only [go_sem, zA, zB, zC, zD, zE, zF, zG, gS, f7]
    cases b with
    | true =>
     simp -dsimp (maxDischargeDepth := 9) only [go_sem, zA, zB, zC, zD, zE, zF, zG, gS, f7]
     refine ih (.mk tk tn ti ta) (List.mem_of_getElem? hx) _ _ ?_
     simp -dsimp (maxDischargeDepth := 9) only [go_sem, zA, zB, zC, zD, zE, zF, zG, gS, f7, hw]
     exact roundQ_next (j + 1, tmOk l (.mk tk tn ti ta)) _ ⟨rfl, g1', by rw [← hrun, Bool.true_and]⟩ (by simp only; omega) (by simp -dsimp (maxDischargeDepth := 9) only [go_sem, zA, zB, zC, zD, zE, zF, zG, gS]) (leH_hp0 (by simp only [hpS, eq_self, implies_true, f7]))
    | false =>
     simp -dsimp (maxDischargeDepth := 9) only [go_sem, zA, zB, zC, zD, zE, zF, zG, gS, f7, hw]
     exact roundQ_next (j + 1, false) _ ⟨rfl, g1', by rw [← hrun]; simp⟩ (by simp only; omega) (by simp -dsimp (maxDischargeDepth := 9) only [go_sem, zA, zB, zC, zD, zE, zF, zG, gS]) (leH_hp0 (by simp only [hpS, eq_self, implies_true, f7]))
   ·rw [drop_end (by have := of_decide_eq_false g1; omega)] at hrun
    simp only [tmOks, Bool.and_true] at hrun
    rw [← hrun] at hK
    simp -dsimp (maxDischargeDepth := 9) only [go_sem, zA, zB, zC, zD, zE, zF, zG, gS, g1]
    exact retW_drop (G := H) (leH_hp0 (by simp only [hpS, eq_self, implies_true, ])) (retW_is hK)
mutual
def Ty.small : Ty → Prop
 | .mk _ _ xs => xs.length ≤ 32768 ∧ Ty.smalls xs
def Ty.smalls : List Ty → Prop
 | [] => True
 | t :: ts => t.small ∧ Ty.smalls ts
end
theorem Ty.smalls_mem : ∀ {ts : List Ty}, Ty.smalls ts → ∀ t ∈ ts, t.small
 | _ :: _, h, _, .head _ => h.1
 | _ :: _, h, t, .tail _ ht => Ty.smalls_mem h.2 t ht
mutual
def tyOk (l : List It) (own : Bool) (vars : List ByteArray) : Ty → Bool
 | .mk v n xs => if v = true then !own || vars.any (fun x => decide (x = n)) else (decide ((0 : Int) < (l.countP (tyVars n xs.length) : Int)) || (decide (n = kInt) && decide ((xs.length : Int) = 0))) && tyOks l own vars xs
def tyOks (l : List It) (own : Bool) (vars : List ByteArray) : List Ty → Bool
 | [] => true
 | t :: ts => tyOk l own vars t && tyOks l own vars ts
end
set_option maxHeartbeats 1000000 in
theorem typ04_ok {eb : EbG} (l : List It) (hl : Src l) (own : Bool) (vars : List ByteArray) (hv : vars.length ≤ 1048576) : ∀ (n : Nat) (t : Ty), _root_.SizeOf.sizeOf t ≤ n → t.small → ∀ (H : Heap) (K : A → Heap → Prop), K (.d (.bool (tyOk l own vars t))) H →
  ACall Tryd.prog (seatV eb) 105 [.d (.slice (l.map It.d)), .d t.d, .d (.bool own), .d (.slice (vars.map .str))] H K
 | 0, .mk v nm xs, hn, _, _, _, _ => by simp at hn
 | n + 1, .mk v nm xs, hn, hs, H, K, hK => by
  simp only [Ty.small] at hs
  simp only [tyOk] at hK
  have ih : ∀ t ∈ xs, ∀ (H : Heap) (K : A → Heap → Prop), K (.d (.bool (tyOk l own vars t))) H → ACall Tryd.prog (seatV eb) 105 [.d (.slice (l.map It.d)), .d t.d, .d (.bool own), .d (.slice (vars.map .str))] H K := fun t ht H K hK =>
   typ04_ok l hl own vars hv n t (by have := List.sizeOf_lt_of_mem ht; simp only [Ty.mk.sizeOf_spec] at hn; omega) (Ty.smalls_mem hs.2 t ht) H K hK
  refine ACall.hp_start ?_
  refine ACall.by mixed fn105 (by simp) ?_
  conv in s105 => cbv
  refine svc_start ?_
  simp -dsimp (maxDischargeDepth := 9) only [go_sem, zA, zB, zC, zD, zE, zF, zG, gS, Ty.d, Ty.cs, Ty.ds_map]
  refine newK_hp (fun b5 f5 => ?_)
  simp only [off_cons, off_nil] at f5
  simp -dsimp (maxDischargeDepth := 9) only [go_sem, zA, zB, zC, zD, zE, zF, zG, gS, f5]
  cases v with
  | true =>
   simp only [if_true] at hK
   simp -dsimp (maxDischargeDepth := 9) only [go_sem, zA, zB, zC, zD, zE, zF, zG, gS, f5]
   cases own with
   | false =>
    simp -dsimp (maxDischargeDepth := 9) only [go_sem, zA, zB, zC, zD, zE, zF, zG, gS, f5]
    exact retW_drop (G := H) (leH_hp0 (by simp only [hpS, eq_self, implies_true, f5])) (retW_is hK)
   | true =>
    simp -dsimp (maxDischargeDepth := 9) only [go_sem, zA, zB, zC, zD, zE, zF, zG, gS, f5]
    refine in_ok _ vars hv nm _ ?_
    simp -dsimp (maxDischargeDepth := 9) only [go_sem, zA, zB, zC, zD, zE, zF, zG, gS, f5]
    exact retW_drop (G := H) (leH_hp0 (by simp only [hpS, eq_self, implies_true, f5])) (retW_is hK)
  | false =>
   simp only [Bool.false_eq_true, if_false] at hK
   simp -dsimp (maxDischargeDepth := 9) only [go_sem, zA, zB, zC, zD, zE, zF, zG, gS, f5]
   refine types_ok _ l hl.len nm xs.length _ ?_
   simp -dsimp (maxDischargeDepth := 9) only [go_sem, zA, zB, zC, zD, zE, zF, zG, gS, f5]
   have hkI : (⟨#[105, 110, 116]⟩ : ByteArray) = kInt := rfl
   refine (fun (key : (?T : Prop)) => ?main) ?rest
   case main =>
    refine gif_split (fun g1 => ?_) (fun g1 => ?_)
    ·simp -dsimp (maxDischargeDepth := 9) only [go_sem, zA, zB, zC, zD, zE, zF, zG, gS, f5, g1]
     refine svc_loop (X := Nat × Bool) (fun x => [(0, .d (.slice (l.map It.d))), (2, .d (.bool own)), (3, .d (.slice (vars.map .str))), (11, .d (.bool x.2)), (48, .d (.slice (xs.map Ty.d))), (49, .d (.int .i64 xs.length)), (50, .d (.int .i64 x.1))])
      (fun x G => G = hp H [] ∧ x.1 ≤ xs.length ∧ (x.2 && tyOks l own vars (xs.drop x.1)) = ((decide ((0 : Int) < (l.countP (tyVars nm xs.length) : Int)) || (decide (nm = kInt) && decide ((xs.length : Int) = 0))) && tyOks l own vars xs)) (fun x => xs.length - x.1) (0, true) _ ⟨rfl, by simp, by simp only [g1, Bool.true_or, List.drop_zero]⟩ (by simp -dsimp (maxDischargeDepth := 9) only [go_sem, zA, zB, zC, zD, zE, zF, zG, gS]) ((leH_hp0 (by simp only [hpS, eq_self, implies_true, f5]))) ?_
     exact key
    ·simp -dsimp (maxDischargeDepth := 9) only [go_sem, zA, zB, zC, zD, zE, zF, zG, gS, f5, g1]
     refine gif_split (fun g2 => ?_) (fun g2 => ?_)
     ·simp -dsimp (maxDischargeDepth := 9) only [go_sem, zA, zB, zC, zD, zE, zF, zG, gS, f5, g2]
      refine svc_loop (X := Nat × Bool) (fun x => [(0, .d (.slice (l.map It.d))), (2, .d (.bool own)), (3, .d (.slice (vars.map .str))), (11, .d (.bool x.2)), (48, .d (.slice (xs.map Ty.d))), (49, .d (.int .i64 xs.length)), (50, .d (.int .i64 x.1))])
       (fun x G => G = hp H [] ∧ x.1 ≤ xs.length ∧ (x.2 && tyOks l own vars (xs.drop x.1)) = ((decide ((0 : Int) < (l.countP (tyVars nm xs.length) : Int)) || (decide (nm = kInt) && decide ((xs.length : Int) = 0))) && tyOks l own vars xs)) (fun x => xs.length - x.1) (0, decide ((xs.length : Int) = 0)) _ ⟨rfl, by simp, by simp only [g1, ← hkI, g2, Bool.false_or, Bool.true_and, List.drop_zero]⟩ (by simp -dsimp (maxDischargeDepth := 9) only [go_sem, zA, zB, zC, zD, zE, zF, zG, gS]) ((leH_hp0 (by simp only [hpS, eq_self, implies_true, f5]))) ?_
      exact key
     ·simp -dsimp (maxDischargeDepth := 9) only [go_sem, zA, zB, zC, zD, zE, zF, zG, gS, f5, g2]
      refine svc_loop (X := Nat × Bool) (fun x => [(0, .d (.slice (l.map It.d))), (2, .d (.bool own)), (3, .d (.slice (vars.map .str))), (11, .d (.bool x.2)), (48, .d (.slice (xs.map Ty.d))), (49, .d (.int .i64 xs.length)), (50, .d (.int .i64 x.1))])
       (fun x G => G = hp H [] ∧ x.1 ≤ xs.length ∧ (x.2 && tyOks l own vars (xs.drop x.1)) = ((decide ((0 : Int) < (l.countP (tyVars nm xs.length) : Int)) || (decide (nm = kInt) && decide ((xs.length : Int) = 0))) && tyOks l own vars xs)) (fun x => xs.length - x.1) (0, false) _ ⟨rfl, by simp, by simp only [g1, ← hkI, g2, Bool.false_or, Bool.false_and, List.drop_zero]⟩ (by simp -dsimp (maxDischargeDepth := 9) only [go_sem, zA, zB, zC, zD, zE, zF, zG, gS]) ((leH_hp0 (by simp only [hpS, eq_self, implies_true, f5]))) ?_
      exact key
   case rest =>
    rintro ⟨j, b⟩ G ⟨hG, hj, hrun⟩
    simp only at hj hrun
    rw [hG]
    simp -dsimp (maxDischargeDepth := 9) only [go_sem, zA, zB, zC, zD, zE, zF, zG, gS]
    refine gif_split (fun g1 => ?_) (fun g1 => ?_)
    ·have g1' : j < xs.length := by have := of_decide_eq_true g1; omega
     obtain ⟨⟨tv, tn, ta⟩, hx⟩ := list_at g1'
     have hw := wrapN (k := j) (by omega)
     rw [drop_at hx] at hrun
     simp only [tyOks] at hrun
     simp -dsimp (maxDischargeDepth := 9) only [go_sem, zA, zB, zC, zD, zE, zF, zG, gS, g1, hx, Ty.d, Ty.cs]
     refine newK_hp (fun b13 f13 => ?_)
     simp only [off_cons, off_nil] at f13
     simp -dsimp (maxDischargeDepth := 9) only [go_sem, zA, zB, zC, zD, zE, zF, zG, gS, f13]
     cases b with
     | true =>
      simp -dsimp (maxDischargeDepth := 9) only [go_sem, zA, zB, zC, zD, zE, zF, zG, gS, f13]
      refine ih (.mk tv tn ta) (List.mem_of_getElem? hx) _ _ ?_
      simp -dsimp (maxDischargeDepth := 9) only [go_sem, zA, zB, zC, zD, zE, zF, zG, gS, f13, hw]
      exact roundQ_next (j + 1, tyOk l own vars (.mk tv tn ta)) _ ⟨rfl, g1', by rw [← hrun, Bool.true_and]⟩ (by simp only; omega) (by simp -dsimp (maxDischargeDepth := 9) only [go_sem, zA, zB, zC, zD, zE, zF, zG, gS]) (leH_hp0 (by simp only [hpS, eq_self, implies_true, f13]))
     | false =>
      simp -dsimp (maxDischargeDepth := 9) only [go_sem, zA, zB, zC, zD, zE, zF, zG, gS, f13, hw]
      exact roundQ_next (j + 1, false) _ ⟨rfl, g1', by rw [← hrun]; simp⟩ (by simp only; omega) (by simp -dsimp (maxDischargeDepth := 9) only [go_sem, zA, zB, zC, zD, zE, zF, zG, gS]) (leH_hp0 (by simp only [hpS, eq_self, implies_true, f13]))
    ·rw [drop_end (by have := of_decide_eq_false g1; omega)] at hrun
     simp only [tyOks, Bool.and_true] at hrun
     rw [← hrun] at hK
     simp -dsimp (maxDischargeDepth := 9) only [go_sem, zA, zB, zC, zD, zE, zF, zG, gS, g1]
     exact retW_drop (G := H) (leH_hp0 (by simp only [hpS, eq_self, implies_true, ])) (retW_is hK)
end Go.Aug

/- The layer of names: what goals name. -/
namespace Go.Aug
open Nat renaming reduceBEq → zA, reduceLT → zB, reduceAdd → zC, reduceSub → zD, reduceMul → zE, reduceLeDiff → zF
open Int renaming reduceLE → zG
open Go.Proofs
set_option maxRecDepth 100000
set_option linter.unusedSimpArgs false
attribute [local irreducible] hid andK letA onSome onVar onArr arrOnly onInt onBool onFunc onTup idxA ldV ldD addO appTo fillL slA srcK nilQ retW gif sgd sguard svc sops sdops sagain aopO aLoad aStore aBin aUn aConv aLen aIndexAddr aIndex aIndexAddrS aIndexS aSlice aAppend aBuild aBuildSlice aMakeSlice aField aFieldOf aCallOp deepK deepL frzM putE newK newV growV ACall roundQ thenQ inBlockQ sret cnd szs nilC onMap onRow aLookup aMapUpdate aMakeMap
attribute [local go_sem] Int.natCast_zero
mutual
def Gl.small : Gl → Prop
 | .mk _ a b _ xs gs => a.small ∧ b.small ∧ xs.length ≤ 32768 ∧ Tm.smalls xs ∧ gs.length ≤ 32768 ∧ Gl.smalls gs
def Gl.smalls : List Gl → Prop
 | [] => True
 | t :: ts => t.small ∧ Gl.smalls ts
end
theorem Gl.smalls_mem : ∀ {ts : List Gl}, Gl.smalls ts → ∀ t ∈ ts, t.small
 | _ :: _, h, _, .head _ => h.1
 | _ :: _, h, t, .tail _ ht => Gl.smalls_mem h.2 t ht
def glHead (l : List It) (k : Int) (a b : Tm) (n : ByteArray) (ar : Nat) : Bool :=
 if k = 4 then isBuiltin ⟨n, ar⟩ || decide ((0 : Int) < (rcount l 2 ⟨n, ar⟩ : Int)) else if k = 3 then tmOk l a && tmOk l b else if k = 8 then tmOk l a else true
mutual
def glOk (l : List It) : Gl → Bool
 | .mk k a b n xs gs => (glHead l k a b n xs.length && tmOks l xs) && glOks l gs
def glOks (l : List It) : List Gl → Bool
 | [] => true
 | t :: ts => glOk l t && glOks l ts
end
set_option maxHeartbeats 2000000 in
theorem goal04_ok {eb : EbG} (l : List It) (hl : Src l) : ∀ (n : Nat) (t : Gl), _root_.SizeOf.sizeOf t ≤ n → t.small → ∀ (H : Heap) (K : A → Heap → Prop), K (.d (.bool (glOk l t))) H →
  ACall Tryd.prog (seatV eb) 107 [.d (.slice (l.map It.d)), .d t.d] H K
 | 0, .mk k a b nm xs gs, hn, _, _, _, _ => by simp at hn
 | n + 1, .mk k a b nm xs gs, hn, hs, H, K, hK => by
  simp only [Gl.small] at hs
  obtain ⟨hsa, hsb, hxl, hxs, hgl, hgs⟩ := hs
  simp only [glOk] at hK
  have ih : ∀ t ∈ gs, ∀ (H : Heap) (K : A → Heap → Prop), K (.d (.bool (glOk l t))) H → ACall Tryd.prog (seatV eb) 107 [.d (.slice (l.map It.d)), .d t.d] H K := fun t ht H K hK =>
   goal04_ok l hl n t (by have := List.sizeOf_lt_of_mem ht; simp only [Gl.mk.sizeOf_spec] at hn; omega) (Gl.smalls_mem hgs t ht) H K hK
  have hterm : ∀ t : Tm, t.small → ∀ (H : Heap) (K : A → Heap → Prop), K (.d (.bool (tmOk l t))) H → ACall Tryd.prog (seatV eb) 108 [.d (.slice (l.map It.d)), .d t.d] H K := fun t ht H K hK =>
   term04_ok l hl _ t (Nat.le_refl _) ht H K hK
  obtain ⟨ak, an, ai, aa⟩ := a
  obtain ⟨bk, bn, bi, ba⟩ := b
  refine ACall.hp_start ?_
  refine ACall.by mixed fn107 (by simp) ?_
  conv in s107 => cbv
  refine svc_start ?_
  simp -dsimp (maxDischargeDepth := 9) only [go_sem, zA, zB, zC, zD, zE, zF, zG, gS, Gl.d, Gl.cs, Tm.cs, Gl.ds_map, List.cons_append, List.nil_append]
  refine newK_hp (fun b3 f3 => ?_)
  simp only [off_cons, off_nil] at f3
  simp -dsimp (maxDischargeDepth := 9) only [go_sem, zA, zB, zC, zD, zE, zF, zG, gS, f3]
  refine (fun (key : (?T : Prop)) => ?main) ?rest
  case main =>
   refine gif_split (fun g1 => ?_) (fun g1 => ?_)
   ·have e4 : k = 4 := of_decide_eq_true g1
    have n3 : decide (k = 3) = false := by rw [e4]; decide
    have n8 : decide (k = 8) = false := by rw [e4]; decide
    simp -dsimp (maxDischargeDepth := 9) only [go_sem, zA, zB, zC, zD, zE, zF, zG, gS, f3, g1]
    refine newK_hp (fun b6 f6 => ?_)
    simp only [off_cons, off_nil] at f6
    simp -dsimp (maxDischargeDepth := 9) only [go_sem, zA, zB, zC, zD, zE, zF, zG, gS, f3, f6]
    refine builtin04_ok _ ⟨nm, xs.length⟩ _ ?_
    simp -dsimp (maxDischargeDepth := 9) only [go_sem, zA, zB, zC, zD, zE, zF, zG, gS, f3, f6]
    cases hb : isBuiltin ⟨nm, xs.length⟩ with
    | true =>
     simp -dsimp (maxDischargeDepth := 9) only [go_sem, zA, zB, zC, zD, zE, zF, zG, gS, f3, f6, n3, n8]
     refine svc_loop (X := Nat × Bool) (fun x => [(0, .d (.slice (l.map It.d))), (3, .ref b3 0), (5, .d (.bool x.2)), (49, .d (.slice (xs.map Tm.d))), (50, .d (.int .i64 xs.length)), (51, .d (.int .i64 x.1))])
      (fun x G => G = hp H [(b3, .var [.d (.int .i64 k), .d (.int .i64 ak), .d (.str an), .d (.int .i64 ai), .d (.slice (Tm.ds aa)), .d (.int .i64 bk), .d (.str bn), .d (.int .i64 bi), .d (.slice (Tm.ds ba)), .d (.str nm), .d (.slice (xs.map Tm.d)), .d (.slice (gs.map Gl.d))])] ∧ x.1 ≤ xs.length ∧ (x.2 && tmOks l (xs.drop x.1)) = (glHead l k (.mk ak an ai aa) (.mk bk bn bi ba) nm xs.length && tmOks l xs)) (fun x => xs.length - x.1) (0, true) _ ⟨rfl, by simp, by simp only [glHead, hb, Bool.true_or, Bool.true_and, List.drop_zero, if_pos e4]⟩ (by simp -dsimp (maxDischargeDepth := 9) only [go_sem, zA, zB, zC, zD, zE, zF, zG, gS]) (leH_hp (by simp only [hpS, eq_self, implies_true, f3, f6]) (by simp only [hpS, eq_self, implies_true, f3, f6])) ?_
     exact key
    | false =>
     simp -dsimp (maxDischargeDepth := 9) only [go_sem, zA, zB, zC, zD, zE, zF, zG, gS, f3, f6]
     refine count_ok _ l hl.len 2 ⟨nm, xs.length⟩ _ ?_
     simp -dsimp (maxDischargeDepth := 9) only [go_sem, zA, zB, zC, zD, zE, zF, zG, gS, f3, f6, n3, n8]
     refine svc_loop (X := Nat × Bool) (fun x => [(0, .d (.slice (l.map It.d))), (3, .ref b3 0), (5, .d (.bool x.2)), (49, .d (.slice (xs.map Tm.d))), (50, .d (.int .i64 xs.length)), (51, .d (.int .i64 x.1))])
      (fun x G => G = hp H [(b3, .var [.d (.int .i64 k), .d (.int .i64 ak), .d (.str an), .d (.int .i64 ai), .d (.slice (Tm.ds aa)), .d (.int .i64 bk), .d (.str bn), .d (.int .i64 bi), .d (.slice (Tm.ds ba)), .d (.str nm), .d (.slice (xs.map Tm.d)), .d (.slice (gs.map Gl.d))])] ∧ x.1 ≤ xs.length ∧ (x.2 && tmOks l (xs.drop x.1)) = (glHead l k (.mk ak an ai aa) (.mk bk bn bi ba) nm xs.length && tmOks l xs)) (fun x => xs.length - x.1) (0, decide ((0 : Int) < (rcount l 2 ⟨nm, xs.length⟩ : Int))) _ ⟨rfl, by simp, by simp only [glHead, hb, Bool.false_or, List.drop_zero, if_pos e4]⟩ (by simp -dsimp (maxDischargeDepth := 9) only [go_sem, zA, zB, zC, zD, zE, zF, zG, gS]) (leH_hp (by simp only [hpS, eq_self, implies_true, f3, f6]) (by simp only [hpS, eq_self, implies_true, f3, f6])) ?_
     exact key
   ·have e4 : k ≠ 4 := of_decide_eq_false g1
    simp -dsimp (maxDischargeDepth := 9) only [go_sem, zA, zB, zC, zD, zE, zF, zG, gS, f3, g1]
    refine gif_split (fun g2 => ?_) (fun g2 => ?_)
    ·have e3 : k = 3 := of_decide_eq_true g2
     have n8 : decide (k = 8) = false := by rw [e3]; decide
     simp -dsimp (maxDischargeDepth := 9) only [go_sem, zA, zB, zC, zD, zE, zF, zG, gS, f3, g2]
     refine hterm (.mk ak an ai aa) hsa _ _ ?_
     simp -dsimp (maxDischargeDepth := 9) only [go_sem, zA, zB, zC, zD, zE, zF, zG, gS, f3]
     cases ha : tmOk l (.mk ak an ai aa) with
     | false =>
      simp -dsimp (maxDischargeDepth := 9) only [go_sem, zA, zB, zC, zD, zE, zF, zG, gS, f3, n8]
      refine svc_loop (X := Nat × Bool) (fun x => [(0, .d (.slice (l.map It.d))), (3, .ref b3 0), (5, .d (.bool x.2)), (49, .d (.slice (xs.map Tm.d))), (50, .d (.int .i64 xs.length)), (51, .d (.int .i64 x.1))])
       (fun x G => G = hp H [(b3, .var [.d (.int .i64 k), .d (.int .i64 ak), .d (.str an), .d (.int .i64 ai), .d (.slice (Tm.ds aa)), .d (.int .i64 bk), .d (.str bn), .d (.int .i64 bi), .d (.slice (Tm.ds ba)), .d (.str nm), .d (.slice (xs.map Tm.d)), .d (.slice (gs.map Gl.d))])] ∧ x.1 ≤ xs.length ∧ (x.2 && tmOks l (xs.drop x.1)) = (glHead l k (.mk ak an ai aa) (.mk bk bn bi ba) nm xs.length && tmOks l xs)) (fun x => xs.length - x.1) (0, false) _ ⟨rfl, by simp, by simp only [glHead, ha, if_neg e4, if_pos e3, Bool.false_and, List.drop_zero]⟩ (by simp -dsimp (maxDischargeDepth := 9) only [go_sem, zA, zB, zC, zD, zE, zF, zG, gS]) (leH_hp (by simp only [hpS, eq_self, implies_true, f3]) (by simp only [hpS, eq_self, implies_true, f3])) ?_
      exact key
     | true =>
      simp -dsimp (maxDischargeDepth := 9) only [go_sem, zA, zB, zC, zD, zE, zF, zG, gS, f3]
      refine hterm (.mk bk bn bi ba) hsb _ _ ?_
      simp -dsimp (maxDischargeDepth := 9) only [go_sem, zA, zB, zC, zD, zE, zF, zG, gS, f3, n8]
      refine svc_loop (X := Nat × Bool) (fun x => [(0, .d (.slice (l.map It.d))), (3, .ref b3 0), (5, .d (.bool x.2)), (49, .d (.slice (xs.map Tm.d))), (50, .d (.int .i64 xs.length)), (51, .d (.int .i64 x.1))])
       (fun x G => G = hp H [(b3, .var [.d (.int .i64 k), .d (.int .i64 ak), .d (.str an), .d (.int .i64 ai), .d (.slice (Tm.ds aa)), .d (.int .i64 bk), .d (.str bn), .d (.int .i64 bi), .d (.slice (Tm.ds ba)), .d (.str nm), .d (.slice (xs.map Tm.d)), .d (.slice (gs.map Gl.d))])] ∧ x.1 ≤ xs.length ∧ (x.2 && tmOks l (xs.drop x.1)) = (glHead l k (.mk ak an ai aa) (.mk bk bn bi ba) nm xs.length && tmOks l xs)) (fun x => xs.length - x.1) (0, tmOk l (.mk bk bn bi ba)) _ ⟨rfl, by simp, by simp only [glHead, ha, if_neg e4, if_pos e3, Bool.true_and, List.drop_zero]⟩ (by simp -dsimp (maxDischargeDepth := 9) only [go_sem, zA, zB, zC, zD, zE, zF, zG, gS]) (leH_hp (by simp only [hpS, eq_self, implies_true, f3]) (by simp only [hpS, eq_self, implies_true, f3])) ?_
      exact key
    ·have e3 : k ≠ 3 := of_decide_eq_false g2
     simp -dsimp (maxDischargeDepth := 9) only [go_sem, zA, zB, zC, zD, zE, zF, zG, gS, f3, g2]
     refine gif_split (fun g5 => ?_) (fun g5 => ?_)
     ·have e8 : k = 8 := of_decide_eq_true g5
      simp -dsimp (maxDischargeDepth := 9) only [go_sem, zA, zB, zC, zD, zE, zF, zG, gS, f3, g5]
      refine hterm (.mk ak an ai aa) hsa _ _ ?_
      simp -dsimp (maxDischargeDepth := 9) only [go_sem, zA, zB, zC, zD, zE, zF, zG, gS, f3]
      refine svc_loop (X := Nat × Bool) (fun x => [(0, .d (.slice (l.map It.d))), (3, .ref b3 0), (5, .d (.bool x.2)), (49, .d (.slice (xs.map Tm.d))), (50, .d (.int .i64 xs.length)), (51, .d (.int .i64 x.1))])
       (fun x G => G = hp H [(b3, .var [.d (.int .i64 k), .d (.int .i64 ak), .d (.str an), .d (.int .i64 ai), .d (.slice (Tm.ds aa)), .d (.int .i64 bk), .d (.str bn), .d (.int .i64 bi), .d (.slice (Tm.ds ba)), .d (.str nm), .d (.slice (xs.map Tm.d)), .d (.slice (gs.map Gl.d))])] ∧ x.1 ≤ xs.length ∧ (x.2 && tmOks l (xs.drop x.1)) = (glHead l k (.mk ak an ai aa) (.mk bk bn bi ba) nm xs.length && tmOks l xs)) (fun x => xs.length - x.1) (0, tmOk l (.mk ak an ai aa)) _ ⟨rfl, by simp, by simp only [glHead, if_neg e4, if_neg e3, if_pos e8, List.drop_zero]⟩ (by simp -dsimp (maxDischargeDepth := 9) only [go_sem, zA, zB, zC, zD, zE, zF, zG, gS]) (leH_hp (by simp only [hpS, eq_self, implies_true, f3]) (by simp only [hpS, eq_self, implies_true, f3])) ?_
      exact key
     ·have e8 : k ≠ 8 := of_decide_eq_false g5
      simp -dsimp (maxDischargeDepth := 9) only [go_sem, zA, zB, zC, zD, zE, zF, zG, gS, f3, g5]
      refine svc_loop (X := Nat × Bool) (fun x => [(0, .d (.slice (l.map It.d))), (3, .ref b3 0), (5, .d (.bool x.2)), (49, .d (.slice (xs.map Tm.d))), (50, .d (.int .i64 xs.length)), (51, .d (.int .i64 x.1))])
       (fun x G => G = hp H [(b3, .var [.d (.int .i64 k), .d (.int .i64 ak), .d (.str an), .d (.int .i64 ai), .d (.slice (Tm.ds aa)), .d (.int .i64 bk), .d (.str bn), .d (.int .i64 bi), .d (.slice (Tm.ds ba)), .d (.str nm), .d (.slice (xs.map Tm.d)), .d (.slice (gs.map Gl.d))])] ∧ x.1 ≤ xs.length ∧ (x.2 && tmOks l (xs.drop x.1)) = (glHead l k (.mk ak an ai aa) (.mk bk bn bi ba) nm xs.length && tmOks l xs)) (fun x => xs.length - x.1) (0, true) _ ⟨rfl, by simp, by simp only [glHead, if_neg e4, if_neg e3, if_neg e8, Bool.true_and, List.drop_zero]⟩ (by simp -dsimp (maxDischargeDepth := 9) only [go_sem, zA, zB, zC, zD, zE, zF, zG, gS]) (leH_hp (by simp only [hpS, eq_self, implies_true, f3]) (by simp only [hpS, eq_self, implies_true, f3])) ?_
      exact key
  case rest =>
   rintro ⟨j, c⟩ G ⟨hG, hj, hrun⟩
   simp only at hj hrun
   subst hG
   simp -dsimp (maxDischargeDepth := 9) only [go_sem, zA, zB, zC, zD, zE, zF, zG, gS]
   refine gif_split (fun g1 => ?_) (fun g1 => ?_)
   ·have g1' : j < xs.length := by have := of_decide_eq_true g1; omega
    obtain ⟨⟨tk, tn, ti, ta⟩, hx⟩ := list_at g1'
    have hw := wrapN (k := j) (by omega)
    rw [drop_at hx] at hrun
    simp only [tmOks] at hrun
    simp -dsimp (maxDischargeDepth := 9) only [go_sem, zA, zB, zC, zD, zE, zF, zG, gS, g1, hx, Tm.d, Tm.cs]
    refine newK_hp (fun b8 f8 => ?_)
    simp only [off_cons, off_nil] at f8
    simp -dsimp (maxDischargeDepth := 9) only [go_sem, zA, zB, zC, zD, zE, zF, zG, gS, f3, f8]
    cases c with
    | true =>
     simp -dsimp (maxDischargeDepth := 9) only [go_sem, zA, zB, zC, zD, zE, zF, zG, gS, f3, f8]
     refine hterm (.mk tk tn ti ta) (Tm.smalls_mem hxs _ (List.mem_of_getElem? hx)) _ _ ?_
     simp -dsimp (maxDischargeDepth := 9) only [go_sem, zA, zB, zC, zD, zE, zF, zG, gS, f3, f8, hw]
     exact roundQ_next (j + 1, tmOk l (.mk tk tn ti ta)) _ ⟨rfl, g1', by rw [← hrun, Bool.true_and]⟩ (by simp only; omega) (by simp -dsimp (maxDischargeDepth := 9) only [go_sem, zA, zB, zC, zD, zE, zF, zG, gS]) (leH_hp (by simp only [hpS, eq_self, implies_true, f3, f8]) (by simp only [hpS, eq_self, implies_true, f3, f8]))
    | false =>
     simp -dsimp (maxDischargeDepth := 9) only [go_sem, zA, zB, zC, zD, zE, zF, zG, gS, f3, f8, hw]
     exact roundQ_next (j + 1, false) _ ⟨rfl, g1', by rw [← hrun]; simp⟩ (by simp only; omega) (by simp -dsimp (maxDischargeDepth := 9) only [go_sem, zA, zB, zC, zD, zE, zF, zG, gS]) (leH_hp (by simp only [hpS, eq_self, implies_true, f3, f8]) (by simp only [hpS, eq_self, implies_true, f3, f8]))
   ·rw [drop_end (by have := of_decide_eq_false g1; omega)] at hrun
    simp only [tmOks, Bool.and_true] at hrun
    rw [← hrun] at hK
    simp -dsimp (maxDischargeDepth := 9) only [go_sem, zA, zB, zC, zD, zE, zF, zG, gS, g1, f3]
    refine svc_loop (X := Nat × Bool) (fun x => [(0, .d (.slice (l.map It.d))), (5, .d (.bool x.2)), (63, .d (.slice (gs.map Gl.d))), (64, .d (.int .i64 gs.length)), (65, .d (.int .i64 x.1))])
     (fun x G => G = hp H [] ∧ x.1 ≤ gs.length ∧ (x.2 && glOks l (gs.drop x.1)) = (c && glOks l gs)) (fun x => gs.length - x.1) (0, c) _ ⟨rfl, by simp, by simp only [List.drop_zero]⟩ (by simp -dsimp (maxDischargeDepth := 9) only [go_sem, zA, zB, zC, zD, zE, zF, zG, gS]) ((leH_hp0 (by simp only [hpS, eq_self, implies_true, f3]))) ?_
    rintro ⟨j, d⟩ G ⟨hG, hj, hrun⟩
    simp only at hj hrun
    rw [hG]
    simp -dsimp (maxDischargeDepth := 9) only [go_sem, zA, zB, zC, zD, zE, zF, zG, gS]
    refine gif_split (fun g1 => ?_) (fun g1 => ?_)
    ·have g1' : j < gs.length := by have := of_decide_eq_true g1; omega
     obtain ⟨g, hx⟩ := list_at g1'
     obtain ⟨x1, x2, x3, x4, x5, x6, x7, x8, x9, x10, x11, x12, hca⟩ := g.opn
     have hgd : g.d = .agg [x1, x2, x3, x4, x5, x6, x7, x8, x9, x10, x11, x12] := by rw [Gl.d, hca]
     have hw := wrapN (k := j) (by omega)
     rw [drop_at hx] at hrun
     simp only [glOks] at hrun
     simp -dsimp (maxDischargeDepth := 9) only [go_sem, zA, zB, zC, zD, zE, zF, zG, gS, g1, hx, hgd]
     refine newK_hp (fun b10 f10 => ?_)
     simp only [off_cons, off_nil] at f10
     simp -dsimp (maxDischargeDepth := 9) only [go_sem, zA, zB, zC, zD, zE, zF, zG, gS, f10]
     cases d with
     | true =>
      simp -dsimp (maxDischargeDepth := 9) only [go_sem, zA, zB, zC, zD, zE, zF, zG, gS, f10]
      rw [← hgd]
      refine ih g (List.mem_of_getElem? hx) _ _ ?_
      simp -dsimp (maxDischargeDepth := 9) only [go_sem, zA, zB, zC, zD, zE, zF, zG, gS, f10, hw]
      exact roundQ_next (j + 1, glOk l g) _ ⟨rfl, g1', by rw [← hrun, Bool.true_and]⟩ (by simp only; omega) (by simp -dsimp (maxDischargeDepth := 9) only [go_sem, zA, zB, zC, zD, zE, zF, zG, gS]) (leH_hp0 (by simp only [hpS, eq_self, implies_true, f10]))
     | false =>
      simp -dsimp (maxDischargeDepth := 9) only [go_sem, zA, zB, zC, zD, zE, zF, zG, gS, f10, hw]
      exact roundQ_next (j + 1, false) _ ⟨rfl, g1', by rw [← hrun]; simp⟩ (by simp only; omega) (by simp -dsimp (maxDischargeDepth := 9) only [go_sem, zA, zB, zC, zD, zE, zF, zG, gS]) (leH_hp0 (by simp only [hpS, eq_self, implies_true, f10]))
    ·rw [drop_end (by have := of_decide_eq_false g1; omega)] at hrun
     simp only [glOks, Bool.and_true] at hrun
     rw [← hrun] at hK
     simp -dsimp (maxDischargeDepth := 9) only [go_sem, zA, zB, zC, zD, zE, zF, zG, gS, g1]
     exact retW_drop (G := H) (leH_hp0 (by simp only [hpS, eq_self, implies_true, ])) (retW_is hK)
end Go.Aug

/- The layer of names: what is well named (printed by mkNmE.py). -/
namespace Go.Aug
open Nat renaming reduceBEq → zA, reduceLT → zB, reduceAdd → zC, reduceSub → zD, reduceMul → zE, reduceLeDiff → zF
open Int renaming reduceLE → zG
open Go.Proofs
set_option maxRecDepth 100000
set_option linter.unusedSimpArgs false
attribute [local irreducible] hid andK letA onSome onVar onArr arrOnly onInt onBool onFunc onTup idxA ldV ldD addO appTo fillL slA srcK nilQ retW gif sgd sguard svc sops sdops sagain aopO aLoad aStore aBin aUn aConv aLen aIndexAddr aIndex aIndexAddrS aIndexS aSlice aAppend aBuild aBuildSlice aMakeSlice aField aFieldOf aCallOp deepK deepL frzM putE newK newV growV ACall roundQ thenQ inBlockQ sret cnd szs nilC onMap onRow aLookup aMapUpdate aMakeMap
attribute [local go_sem] Int.natCast_zero
/-- None of these stands ahead of itself. -/
def noTwice : List ByteArray → List ByteArray → Bool
 | _, [] => true
 | pre, v :: vs => !(pre.any fun x => decide (x = v)) && noTwice (pre ++ [v]) vs
def ctWell (l : List It) (vars : List ByteArray) (c : Ct) : Bool := decide (((rctors l ⟨c.name, c.args.length⟩ : Nat) : Int) = 1) && tyOks l true vars c.args
def wellType (l : List It) (it : It) : Bool := (decide ((l.countP (tyOf it.name) : Int) = 1) && noTwice [] it.vars) && it.ctors.all (ctWell l it.vars)
def wellPred (l : List It) (it : It) : Bool := ((!isBuiltin (keyOf it) && decide ((rcount l 2 (keyOf it) : Int) = 1)) && !decide ((rcount l 3 (keyOf it) : Int) = 0)) && tyOks l false [] it.types
def other (i : Nat) (q : Ky) (w : List Bool) (k : Nat) (x : It) : Bool := !decide ((k : Int) = (i : Int)) && (decide (x.kind = 3) && (Ky.eqb (keyOf x) q && sameWays x.ways w))
def noOther (i : Nat) (q : Ky) (w : List Bool) : Nat → List It → Bool
 | _, [] => true
 | k, x :: xs => !other i q w k x && noOther i q w (k + 1) xs
def wellMode (l : List It) (i : Nat) (it : It) : Bool := (!isBuiltin (keyOf it) && !decide ((rcount l 2 (keyOf it) : Int) = 0)) && noOther i (keyOf it) it.ways 0 l
def wellClause (l : List It) (it : It) : Bool := ((!isBuiltin (keyOf it) && !decide ((rcount l 2 (keyOf it) : Int) = 0)) && glOk l it.body) && tmOks l it.args
def rwell (l : List It) (i : Nat) (it : It) : Bool :=
 if it.kind = 1 then wellType l it else if it.kind = 2 then wellPred l it else if it.kind = 3 then wellMode l i it else if it.kind = 4 then wellClause l it else true
/-- An item whose rows are not too long. -/
structure It.small (it : It) : Prop where
 vars : it.vars.length ≤ 32768
 nct : it.ctors.length ≤ 32768
 ctors : ∀ c ∈ it.ctors, c.args.length ≤ 32768 ∧ Ty.smalls c.args
 types : it.types.length ≤ 32768 ∧ Ty.smalls it.types
 ways : it.ways.length ≤ 32768
 args : it.args.length ≤ 32768 ∧ Tm.smalls it.args
 body : it.body.small
set_option maxHeartbeats 8000000 in
theorem well_ok {eb : EbG} (l : List It) (hl : Src l) (hws : ∀ x ∈ l, x.ways.length ≤ 1048576) (i : Nat) (it : It) (hi : l[i]? = some it) (hs : it.small) (H : Heap) (K : A → Heap → Prop) (hK : K (.d (.bool (rwell l i it))) H) :
  ACall Tryd.prog (seatV eb) 55 [.d (.slice (l.map It.d)), .d (.int .i64 i)] H K := by
 have hvl := hs.vars
 have hcl := hs.nct
 have htl := hs.types.1
 obtain ⟨x1, x2, x3, x4, x5, x6, x7, x8, x9, x10, x11, x12, hbody, hd⟩ := it.opn
 have hgd : it.body.d = .agg [x1, x2, x3, x4, x5, x6, x7, x8, x9, x10, x11, x12] := by rw [Gl.d, hbody]
 refine ACall.hp_start ?_
 refine ACall.by mixed fn55 (by simp) ?_
 conv in s55 => cbv
 refine svc_start ?_
 simp -dsimp (maxDischargeDepth := 9) only [go_sem, zA, zB, zC, zD, zE, zF, zG, gS, hi, hd]
 refine newK_hp (fun b5 f5 => ?_)
 simp only [off_cons, off_nil] at f5
 simp -dsimp (maxDischargeDepth := 9) only [go_sem, zA, zB, zC, zD, zE, zF, zG, gS, f5]
 rw [← hd]
 refine keyOf_ok _ it _ ?_
 simp -dsimp (maxDischargeDepth := 9) only [go_sem, zA, zB, zC, zD, zE, zF, zG, gS, f5, Ky.d, Ky.cs]
 refine newK_hp (fun b6 f6 => ?_)
 simp only [off_cons, off_nil] at f6
 simp -dsimp (maxDischargeDepth := 9) only [go_sem, zA, zB, zC, zD, zE, zF, zG, gS, f5, f6]
 refine gif_split (fun g1 => ?_) (fun g1 => ?_)
 ·have e1 : it.kind = 1 := of_decide_eq_true g1
  rw [rwell, if_pos e1] at hK
  have hno : (wellType l it = false) → K (.d (.bool false)) H := fun h => by rw [h] at hK; exact hK
  simp -dsimp (maxDischargeDepth := 9) only [go_sem, zA, zB, zC, zD, zE, zF, zG, gS, f5, f6, g1]
  refine types_ok _ l hl.len it.name 0 _ ?_
  simp -dsimp (maxDischargeDepth := 9) only [go_sem, zA, zB, zC, zD, zE, zF, zG, gS, f5, f6]
  refine gif_split (fun g2 => ?_) (fun g2 => ?_)
  ·simp -dsimp (maxDischargeDepth := 9) only [go_sem, zA, zB, zC, zD, zE, zF, zG, gS, g2]
   exact retW_drop (G := H) (leH_hp0 (by simp only [hpS, eq_self, implies_true, f5, f6])) (retW_is (hno (by simp only [wellType]; rw [show decide ((l.countP (tyOf it.name) : Int) = 1) = false by simpa using g2]; simp)))
  have c1 : decide ((l.countP (tyOf it.name) : Int) = 1) = true := by simpa using g2
  simp -dsimp (maxDischargeDepth := 9) only [go_sem, zA, zB, zC, zD, zE, zF, zG, gS, g2, f5, f6]
  refine svc_loop (X := Nat) (fun k => [(0, .d (.slice (l.map It.d))), (5, .ref b5 0), (41, .d (.slice (it.vars.map .str))), (42, .d (.int .i64 it.vars.length)), (43, .d (.int .i64 k))])
   (fun k G => G = hp H [(b5, .var [.d (.int .i64 it.kind), .d (.str it.name), .d (.slice (it.vars.map .str)), .d (.slice (it.ctors.map Ct.d)), .d (.slice (it.types.map Ty.d)), .d (.slice (it.ways.map .bool)), .d (.int .i64 it.det), .d (.slice (it.args.map Tm.d)), .d x1, .d x2, .d x3, .d x4, .d x5, .d x6, .d x7, .d x8, .d x9, .d x10, .d x11, .d x12])] ∧ k ≤ it.vars.length ∧ noTwice (it.vars.take k) (it.vars.drop k) = noTwice [] it.vars) (fun k => it.vars.length - k) 0 _ ⟨rfl, by omega, by simp⟩ (by simp -dsimp (maxDischargeDepth := 9) only [go_sem, zA, zB, zC, zD, zE, zF, zG, gS]) (leH_hp (by simp only [hpS, eq_self, implies_true, f5, f6]) (by simp only [hpS, eq_self, implies_true, f5, f6])) ?_
  rintro k G ⟨rfl, hk, hrun⟩
  simp -dsimp (maxDischargeDepth := 9) only [go_sem, zA, zB, zC, zD, zE, zF, zG, gS]
  refine gif_split (fun g3 => ?_) (fun g3 => ?_)
  ·have g3' : k < it.vars.length := by have := of_decide_eq_true g3; omega
   obtain ⟨v, hv⟩ := list_at g3'
   have hw := wrapN (k := k) (by omega)
   have htk : it.vars.take (k + 1) = it.vars.take k ++ [v] := by rw [List.take_add_one, hv]; rfl
   rw [drop_at hv] at hrun
   simp only [noTwice] at hrun
   have hsz := szs_map (sz := 1) (f := D.str) (fun _ => rfl) it.vars
   simp -dsimp (maxDischargeDepth := 9) only [go_sem, zA, zB, zC, zD, zE, zF, zG, gS, g3, hv, f5, hsz]
   refine andK_split (by omega) ?_
   simp -dsimp (maxDischargeDepth := 9) only [go_sem, zA, zB, zC, zD, zE, zF, zG, gS]
   rw [← List.map_take]
   refine in_ok _ (it.vars.take k) (by rw [List.length_take]; omega) v _ ?_
   cases hin : (it.vars.take k).any (fun x => decide (x = v)) with
   | true =>
    rw [hin] at hrun
    simp -dsimp (maxDischargeDepth := 9) only [go_sem, zA, zB, zC, zD, zE, zF, zG, gS]
    exact retW_drop (G := H) (leH_hp0 (by simp only [hpS, eq_self, implies_true, f5])) (retW_is (hno (by simp only [wellType, ← hrun]; simp)))
   | false =>
    rw [hin] at hrun
    simp -dsimp (maxDischargeDepth := 9) only [go_sem, zA, zB, zC, zD, zE, zF, zG, gS, hw]
    exact roundQ_next (k + 1) _ ⟨rfl, g3', by rw [htk, ← hrun]; simp⟩ (by omega) (by simp -dsimp (maxDischargeDepth := 9) only [go_sem, zA, zB, zC, zD, zE, zF, zG, gS]) (.refl _)
  have c2 : noTwice [] it.vars = true := by
   rw [drop_end (by have := of_decide_eq_false g3; omega)] at hrun
   rw [← hrun]; rfl
  simp -dsimp (maxDischargeDepth := 9) only [go_sem, zA, zB, zC, zD, zE, zF, zG, gS, g3, f5]
  refine svc_loop (X := Nat) (fun k => [(0, .d (.slice (l.map It.d))), (5, .ref b5 0), (56, .d (.slice (it.ctors.map Ct.d))), (57, .d (.int .i64 it.ctors.length)), (58, .d (.int .i64 k))])
   (fun k G => G = hp H [(b5, .var [.d (.int .i64 it.kind), .d (.str it.name), .d (.slice (it.vars.map .str)), .d (.slice (it.ctors.map Ct.d)), .d (.slice (it.types.map Ty.d)), .d (.slice (it.ways.map .bool)), .d (.int .i64 it.det), .d (.slice (it.args.map Tm.d)), .d x1, .d x2, .d x3, .d x4, .d x5, .d x6, .d x7, .d x8, .d x9, .d x10, .d x11, .d x12])] ∧ k ≤ it.ctors.length ∧ (it.ctors.drop k).all (ctWell l it.vars) = it.ctors.all (ctWell l it.vars)) (fun k => it.ctors.length - k) 0 _ ⟨rfl, by omega, by simp only [List.drop_zero]⟩ (by simp -dsimp (maxDischargeDepth := 9) only [go_sem, zA, zB, zC, zD, zE, zF, zG, gS]) (.refl _) ?_
  rintro k G ⟨rfl, hk, hrun⟩
  simp -dsimp (maxDischargeDepth := 9) only [go_sem, zA, zB, zC, zD, zE, zF, zG, gS]
  refine gif_split (fun g4 => ?_) (fun g4 => ?_)
  ·have g4' : k < it.ctors.length := by have := of_decide_eq_true g4; omega
   obtain ⟨c, hc⟩ := list_at g4'
   have hw := wrapN (k := k) (by omega)
   have hcm := List.mem_of_getElem? hc
   rw [drop_at hc, List.all_cons] at hrun
   simp -dsimp (maxDischargeDepth := 9) only [go_sem, zA, zB, zC, zD, zE, zF, zG, gS, g4, hc, Ct.d, Ct.cs]
   refine newK_hp (fun b12 f12 => ?_)
   simp only [off_cons, off_nil] at f12
   simp -dsimp (maxDischargeDepth := 9) only [go_sem, zA, zB, zC, zD, zE, zF, zG, gS, f5, f12]
   refine ctors_ok _ l hl.len hl.ctors ⟨c.name, c.args.length⟩ _ ?_
   simp -dsimp (maxDischargeDepth := 9) only [go_sem, zA, zB, zC, zD, zE, zF, zG, gS, f5, f12]
   refine gif_split (fun g5 => ?_) (fun g5 => ?_)
   ·have hcw : ctWell l it.vars c = false := by simp only [ctWell]; rw [show decide (((rctors l ⟨c.name, c.args.length⟩ : Nat) : Int) = 1) = false by simpa using g5, Bool.false_and]
    rw [hcw, Bool.false_and] at hrun
    simp -dsimp (maxDischargeDepth := 9) only [go_sem, zA, zB, zC, zD, zE, zF, zG, gS, g5]
    exact retW_drop (G := H) (leH_hp0 (by simp only [hpS, eq_self, implies_true, f5, f12])) (retW_is (hno (by simp only [wellType, ← hrun]; simp)))
   have hc1 : decide (((rctors l ⟨c.name, c.args.length⟩ : Nat) : Int) = 1) = true := by simpa using g5
   have hcs := hs.ctors c hcm
   simp -dsimp (maxDischargeDepth := 9) only [go_sem, zA, zB, zC, zD, zE, zF, zG, gS, g5, f5, f12]
   refine svc_loop (X := Nat) (fun j => [(0, .d (.slice (l.map It.d))), (5, .ref b5 0), (56, .d (.slice (it.ctors.map Ct.d))), (57, .d (.int .i64 it.ctors.length)), (58, .d (.int .i64 k)), (72, .d (.slice (c.args.map Ty.d))), (73, .d (.int .i64 c.args.length)), (74, .d (.int .i64 j))])
    (fun j G => G = hp H [(b5, .var [.d (.int .i64 it.kind), .d (.str it.name), .d (.slice (it.vars.map .str)), .d (.slice (it.ctors.map Ct.d)), .d (.slice (it.types.map Ty.d)), .d (.slice (it.ways.map .bool)), .d (.int .i64 it.det), .d (.slice (it.args.map Tm.d)), .d x1, .d x2, .d x3, .d x4, .d x5, .d x6, .d x7, .d x8, .d x9, .d x10, .d x11, .d x12])] ∧ j ≤ (c.args).length ∧ tyOks l true it.vars ((c.args).drop j) = tyOks l true it.vars (c.args)) (fun j => (c.args).length - j) 0 _ ⟨rfl, by simp, by simp only [List.drop_zero]⟩ (by simp -dsimp (maxDischargeDepth := 9) only [go_sem, zA, zB, zC, zD, zE, zF, zG, gS]) (leH_hp (by simp only [hpS, eq_self, implies_true, f5, f12]) (by simp only [hpS, eq_self, implies_true, f5, f12])) ?_
   rintro j G ⟨hG, hj, hty⟩
   rw [hG]
   simp -dsimp (maxDischargeDepth := 9) only [go_sem, zA, zB, zC, zD, zE, zF, zG, gS]
   refine gif_split (fun q1 => ?_) (fun q1 => ?_)
   ·have q1' : j < (c.args).length := by have := of_decide_eq_true q1; omega
    obtain ⟨⟨tv, tn, ta⟩, hx⟩ := list_at q1'
    have hwj := wrapN (k := j) (by omega)
    rw [drop_at hx] at hty
    simp only [tyOks] at hty
    simp -dsimp (maxDischargeDepth := 9) only [go_sem, zA, zB, zC, zD, zE, zF, zG, gS, q1, hx, Ty.d, Ty.cs]
    refine newK_hp (fun b14 f14 => ?_)
    simp only [off_cons, off_nil] at f14
    simp -dsimp (maxDischargeDepth := 9) only [go_sem, zA, zB, zC, zD, zE, zF, zG, gS, f5, f14]
    skip
    refine typ04_ok l hl true it.vars (by omega) _ (.mk tv tn ta) (Nat.le_refl _) (Ty.smalls_mem hcs.2 _ (List.mem_of_getElem? hx)) _ _ ?_
    cases ht : tyOk l true it.vars (.mk tv tn ta) with
    | true =>
     rw [ht, Bool.true_and] at hty
     simp -dsimp (maxDischargeDepth := 9) only [go_sem, zA, zB, zC, zD, zE, zF, zG, gS, f5, f14, hwj]
     exact roundQ_next (j + 1) _ ⟨rfl, q1', hty⟩ (by omega) (by simp -dsimp (maxDischargeDepth := 9) only [go_sem, zA, zB, zC, zD, zE, zF, zG, gS]) (leH_hp (by simp only [hpS, eq_self, implies_true, f5, f14]) (by simp only [hpS, eq_self, implies_true, f5, f14]))
    | false =>
     rw [ht, Bool.false_and] at hty
     simp -dsimp (maxDischargeDepth := 9) only [go_sem, zA, zB, zC, zD, zE, zF, zG, gS, f5, f14]
     exact retW_drop (G := H) (leH_hp0 (by simp only [hpS, eq_self, implies_true, f5, f14])) (retW_is (hno (by
        have hcw : ctWell l it.vars c = false := by simp only [ctWell, ← hty, Bool.and_false]
        rw [hcw, Bool.false_and] at hrun
        simp only [wellType, ← hrun, Bool.and_false])))
   ·rw [drop_end (by have := of_decide_eq_false q1; omega)] at hty
    simp only [tyOks] at hty
    simp -dsimp (maxDischargeDepth := 9) only [go_sem, zA, zB, zC, zD, zE, zF, zG, gS, q1, f5]
    have hcw : ctWell l it.vars c = true := by simp only [ctWell, hc1, ← hty, Bool.and_self]
    rw [hcw, Bool.true_and] at hrun
    simp -dsimp (maxDischargeDepth := 9) only [go_sem, zA, zB, zC, zD, zE, zF, zG, gS, hw]
    exact roundQ_next (k + 1) _ ⟨rfl, g4', hrun⟩ (by omega) (by simp -dsimp (maxDischargeDepth := 9) only [go_sem, zA, zB, zC, zD, zE, zF, zG, gS]) (leH_hp (by simp only [hpS, eq_self, implies_true, f5]) (by simp only [hpS, eq_self, implies_true, f5]))
  have c3 : it.ctors.all (ctWell l it.vars) = true := by
   rw [drop_end (by have := of_decide_eq_false g4; omega)] at hrun
   rw [← hrun]; rfl
  have hyes : wellType l it = true := by simp only [wellType, c1, c2, c3, Bool.and_self]
  rw [hyes] at hK
  simp -dsimp (maxDischargeDepth := 9) only [go_sem, zA, zB, zC, zD, zE, zF, zG, gS, g4]
  exact retW_drop (G := H) (leH_hp0 (by simp only [hpS, eq_self, implies_true, f5])) (retW_is hK)
 have e1 : it.kind ≠ 1 := of_decide_eq_false g1
 rw [rwell, if_neg e1] at hK
 simp -dsimp (maxDischargeDepth := 9) only [go_sem, zA, zB, zC, zD, zE, zF, zG, gS, g1]
 refine gif_split (fun g1 => ?_) (fun g1 => ?_)
 ·have e2 : it.kind = 2 := of_decide_eq_true g1
  rw [if_pos e2] at hK
  have hno : (wellPred l it = false) → K (.d (.bool false)) H := fun h => by rw [h] at hK; exact hK
  simp -dsimp (maxDischargeDepth := 9) only [go_sem, zA, zB, zC, zD, zE, zF, zG, gS, f5, f6, g1]
  refine builtin04_ok _ (keyOf it) _ ?_
  cases hb : isBuiltin (keyOf it) with
  | true =>
   simp -dsimp (maxDischargeDepth := 9) only [go_sem, zA, zB, zC, zD, zE, zF, zG, gS, f5, f6]
   exact retW_drop (G := H) (leH_hp0 (by simp only [hpS, eq_self, implies_true, f5, f6])) (retW_is (hno (by simp only [wellPred, hb]; simp)))
  | false =>
  simp -dsimp (maxDischargeDepth := 9) only [go_sem, zA, zB, zC, zD, zE, zF, zG, gS, f5, f6]
  refine count_ok _ l hl.len 2 (keyOf it) _ ?_
  simp -dsimp (maxDischargeDepth := 9) only [go_sem, zA, zB, zC, zD, zE, zF, zG, gS, f5, f6]
  refine gif_split (fun g2 => ?_) (fun g2 => ?_)
  ·have e2 : decide ((rcount l 2 (keyOf it) : Int) = 1) = false := by simpa using g2
   simp -dsimp (maxDischargeDepth := 9) only [go_sem, zA, zB, zC, zD, zE, zF, zG, gS, f5, f6, g2]
   exact retW_drop (G := H) (leH_hp0 (by simp only [hpS, eq_self, implies_true, f5, f6])) (retW_is (hno (by simp only [wellPred, e2]; simp)))
  have e2 : decide ((rcount l 2 (keyOf it) : Int) = 1) = true := by simpa using g2
  simp -dsimp (maxDischargeDepth := 9) only [go_sem, zA, zB, zC, zD, zE, zF, zG, gS, f5, f6, g2]
  refine count_ok _ l hl.len 3 (keyOf it) _ ?_
  simp -dsimp (maxDischargeDepth := 9) only [go_sem, zA, zB, zC, zD, zE, zF, zG, gS, f5, f6]
  refine gif_split (fun g3 => ?_) (fun g3 => ?_)
  ·simp -dsimp (maxDischargeDepth := 9) only [go_sem, zA, zB, zC, zD, zE, zF, zG, gS, f5, f6, g3]
   exact retW_drop (G := H) (leH_hp0 (by simp only [hpS, eq_self, implies_true, f5, f6])) (retW_is (hno (by simp only [wellPred, g3]; simp)))
  simp -dsimp (maxDischargeDepth := 9) only [go_sem, zA, zB, zC, zD, zE, zF, zG, gS, f5, f6, g3]
  refine svc_loop (X := Nat) (fun j => [(0, .d (.slice (l.map It.d))), (103, .d (.slice (it.types.map Ty.d))), (104, .d (.int .i64 it.types.length)), (105, .d (.int .i64 j))])
   (fun j G => G = hp H [] ∧ j ≤ (it.types).length ∧ tyOks l false [] ((it.types).drop j) = tyOks l false [] (it.types)) (fun j => (it.types).length - j) 0 _ ⟨rfl, by simp, by simp only [List.drop_zero]⟩ (by simp -dsimp (maxDischargeDepth := 9) only [go_sem, zA, zB, zC, zD, zE, zF, zG, gS]) (leH_hp0 (by simp only [hpS, eq_self, implies_true, f5, f6])) ?_
  rintro j G ⟨hG, hj, hty⟩
  rw [hG]
  simp -dsimp (maxDischargeDepth := 9) only [go_sem, zA, zB, zC, zD, zE, zF, zG, gS]
  refine gif_split (fun q1 => ?_) (fun q1 => ?_)
  ·have q1' : j < (it.types).length := by have := of_decide_eq_true q1; omega
   obtain ⟨⟨tv, tn, ta⟩, hx⟩ := list_at q1'
   have hwj := wrapN (k := j) (by omega)
   rw [drop_at hx] at hty
   simp only [tyOks] at hty
   simp -dsimp (maxDischargeDepth := 9) only [go_sem, zA, zB, zC, zD, zE, zF, zG, gS, q1, hx, Ty.d, Ty.cs]
   refine newK_hp (fun b16 f16 => ?_)
   simp only [off_cons, off_nil] at f16
   simp -dsimp (maxDischargeDepth := 9) only [go_sem, zA, zB, zC, zD, zE, zF, zG, gS, f5, f6, f16]
   refine ACall.frz [false, false, false, true] ?_
   simp -dsimp (maxDischargeDepth := 9) only [go_sem, zA, zB, zC, zD, zE, zF, zG, gS]
   refine typ04_ok l hl false [] (by simp) _ (.mk tv tn ta) (Nat.le_refl _) (Ty.smalls_mem hs.types.2 _ (List.mem_of_getElem? hx)) _ _ ?_
   cases ht : tyOk l false [] (.mk tv tn ta) with
   | true =>
    rw [ht, Bool.true_and] at hty
    simp -dsimp (maxDischargeDepth := 9) only [go_sem, zA, zB, zC, zD, zE, zF, zG, gS, f5, f6, f16, hwj]
    exact roundQ_next (j + 1) _ ⟨rfl, q1', hty⟩ (by omega) (by simp -dsimp (maxDischargeDepth := 9) only [go_sem, zA, zB, zC, zD, zE, zF, zG, gS]) (leH_hp0 (by simp only [hpS, eq_self, implies_true, f16]))
   | false =>
    rw [ht, Bool.false_and] at hty
    simp -dsimp (maxDischargeDepth := 9) only [go_sem, zA, zB, zC, zD, zE, zF, zG, gS, f5, f6, f16]
    exact retW_drop (G := H) (leH_hp0 (by simp only [hpS, eq_self, implies_true, f16])) (retW_is (hno (by simp only [wellPred, ← hty, Bool.and_false])))
  ·rw [drop_end (by have := of_decide_eq_false q1; omega)] at hty
   simp only [tyOks] at hty
   simp -dsimp (maxDischargeDepth := 9) only [go_sem, zA, zB, zC, zD, zE, zF, zG, gS, q1, f5, f6]
   have hyes : wellPred l it = true := by simp only [wellPred, hb, e2, g3, ← hty]; rfl
   rw [hyes] at hK
   exact retW_drop (G := H) (leH_hp0 (by simp only [hpS, eq_self, implies_true, f5])) (retW_is hK)
 have e2 : it.kind ≠ 2 := of_decide_eq_false g1
 rw [if_neg e2] at hK
 simp -dsimp (maxDischargeDepth := 9) only [go_sem, zA, zB, zC, zD, zE, zF, zG, gS, g1]
 refine gif_split (fun g1 => ?_) (fun g1 => ?_)
 ·have e3 : it.kind = 3 := of_decide_eq_true g1
  rw [if_pos e3] at hK
  have hno : (wellMode l i it = false) → K (.d (.bool false)) H := fun h => by rw [h] at hK; exact hK
  simp -dsimp (maxDischargeDepth := 9) only [go_sem, zA, zB, zC, zD, zE, zF, zG, gS, f5, f6, g1]
  refine builtin04_ok _ (keyOf it) _ ?_
  cases hb : isBuiltin (keyOf it) with
  | true =>
   simp -dsimp (maxDischargeDepth := 9) only [go_sem, zA, zB, zC, zD, zE, zF, zG, gS, f5, f6]
   exact retW_drop (G := H) (leH_hp0 (by simp only [hpS, eq_self, implies_true, f5, f6])) (retW_is (hno (by simp only [wellMode, hb]; simp)))
  | false =>
  simp -dsimp (maxDischargeDepth := 9) only [go_sem, zA, zB, zC, zD, zE, zF, zG, gS, f5, f6]
  refine count_ok _ l hl.len 2 (keyOf it) _ ?_
  simp -dsimp (maxDischargeDepth := 9) only [go_sem, zA, zB, zC, zD, zE, zF, zG, gS, f5, f6]
  refine gif_split (fun g2 => ?_) (fun g2 => ?_)
  ·simp -dsimp (maxDischargeDepth := 9) only [go_sem, zA, zB, zC, zD, zE, zF, zG, gS, f5, f6, g2]
   exact retW_drop (G := H) (leH_hp0 (by simp only [hpS, eq_self, implies_true, f5, f6])) (retW_is (hno (by simp only [wellMode, g2]; simp)))
  simp -dsimp (maxDischargeDepth := 9) only [go_sem, zA, zB, zC, zD, zE, zF, zG, gS, f5, f6, g2]
  refine svc_loop (X := Nat) (fun k => [(1, .d (.int .i64 i)), (5, .ref b5 0), (6, .ref b6 0), (124, .d (.slice (l.map It.d))), (125, .d (.int .i64 l.length)), (126, .d (.int .i64 k))])
   (fun k G => G = hp H [(b5, .var [.d (.int .i64 it.kind), .d (.str it.name), .d (.slice (it.vars.map .str)), .d (.slice (it.ctors.map Ct.d)), .d (.slice (it.types.map Ty.d)), .d (.slice (it.ways.map .bool)), .d (.int .i64 it.det), .d (.slice (it.args.map Tm.d)), .d x1, .d x2, .d x3, .d x4, .d x5, .d x6, .d x7, .d x8, .d x9, .d x10, .d x11, .d x12]), (b6, .var [.d (.str (keyOf it).name), .d (.int .i64 (keyOf it).ar)])] ∧ k ≤ l.length ∧ noOther i (keyOf it) it.ways k (l.drop k) = noOther i (keyOf it) it.ways 0 l) (fun k => l.length - k) 0 _ ⟨rfl, by omega, by simp only [List.drop_zero]⟩ (by simp -dsimp (maxDischargeDepth := 9) only [go_sem, zA, zB, zC, zD, zE, zF, zG, gS]) (.refl _) ?_
  rintro k G ⟨rfl, hk, hrun⟩
  simp -dsimp (maxDischargeDepth := 9) only [go_sem, zA, zB, zC, zD, zE, zF, zG, gS]
  refine gif_split (fun g3 => ?_) (fun g3 => ?_)
  ·have g3' : k < l.length := by have := of_decide_eq_true g3; have := hl.len; omega
   obtain ⟨x, hx⟩ := list_at g3'
   have hw := wrapN (k := k) (by have := hl.len; omega)
   rw [drop_at hx] at hrun
   simp only [noOther] at hrun
   obtain ⟨y1, y2, y3, y4, y5, y6, y7, y8, y9, y10, y11, y12, _, hdx⟩ := x.opn
   have hgo : other i (keyOf it) it.ways k x = false → noOther i (keyOf it) it.ways (k + 1) (l.drop (k + 1)) = noOther i (keyOf it) it.ways 0 l := fun h => by
    rw [h] at hrun; exact hrun
   have hst : other i (keyOf it) it.ways k x = true → K (.d (.bool false)) H := fun h => hno (by
    rw [h] at hrun; simp only [wellMode, ← hrun]; simp)
   simp -dsimp (maxDischargeDepth := 9) only [go_sem, zA, zB, zC, zD, zE, zF, zG, gS, g3, hx, hdx]
   refine newK_hp (fun b18 f18 => ?_)
   simp only [off_cons, off_nil] at f18
   simp -dsimp (maxDischargeDepth := 9) only [go_sem, zA, zB, zC, zD, zE, zF, zG, gS, f5, f6, f18]
   refine gif_split (fun g4 => ?_) (fun g4 => ?_)
   ·simp -dsimp (maxDischargeDepth := 9) only [go_sem, zA, zB, zC, zD, zE, zF, zG, gS, f5, f6, f18, g4]
    refine gif_split (fun g5 => ?_) (fun g5 => ?_)
    ·simp -dsimp (maxDischargeDepth := 9) only [go_sem, zA, zB, zC, zD, zE, zF, zG, gS, f5, f6, f18, g5]
     rw [← hdx]
     refine keyOf_ok _ x _ ?_
     simp -dsimp (maxDischargeDepth := 9) only [go_sem, zA, zB, zC, zD, zE, zF, zG, gS, f5, f6, f18, Ky.d, Ky.cs]
     have hkey : (decide ((keyOf x).name = (keyOf it).name) && (decide ((keyOf x).ar = (keyOf it).ar) && true)) = Ky.eqb (keyOf x) (keyOf it) := by simp [Ky.eqb]
     try rw [hkey]
     try rw [show (decide ((keyOf x).name = (keyOf it).name) && decide ((keyOf x).ar = (keyOf it).ar)) = Ky.eqb (keyOf x) (keyOf it) from rfl]
     cases hq : Ky.eqb (keyOf x) (keyOf it) with
     | true =>
      simp -dsimp (maxDischargeDepth := 9) only [go_sem, zA, zB, zC, zD, zE, zF, zG, gS, f5, f6, f18]
      refine ways_ok _ x.ways it.ways (hws x (List.mem_of_getElem? hx)) _ ?_
      cases hq2 : sameWays x.ways it.ways with
      | true =>
       simp -dsimp (maxDischargeDepth := 9) only [go_sem, zA, zB, zC, zD, zE, zF, zG, gS, f5, f6, f18]
       exact retW_drop (G := H) (leH_hp0 (by simp only [hpS, eq_self, implies_true, f5, f6, f18])) (retW_is (hst (by simp only [other, hq, hq2, Bool.and_true]; rw [g5, Bool.and_true]; simpa using g4)))
      | false =>
       simp -dsimp (maxDischargeDepth := 9) only [go_sem, zA, zB, zC, zD, zE, zF, zG, gS, f5, f6, f18, hw]
       exact roundQ_next (k + 1) _ ⟨rfl, g3', hgo (by simp only [other, hq2, Bool.and_false])⟩ (by omega) (by simp -dsimp (maxDischargeDepth := 9) only [go_sem, zA, zB, zC, zD, zE, zF, zG, gS]) (leH_hp (by simp only [hpS, eq_self, implies_true, f5, f6, f18]) (by simp only [hpS, eq_self, implies_true, f5, f6, f18]))
     | false =>
      simp -dsimp (maxDischargeDepth := 9) only [go_sem, zA, zB, zC, zD, zE, zF, zG, gS, f5, f6, f18, hw]
      exact roundQ_next (k + 1) _ ⟨rfl, g3', hgo (by simp only [other, hq, Bool.false_and, Bool.and_false])⟩ (by omega) (by simp -dsimp (maxDischargeDepth := 9) only [go_sem, zA, zB, zC, zD, zE, zF, zG, gS]) (leH_hp (by simp only [hpS, eq_self, implies_true, f5, f6, f18]) (by simp only [hpS, eq_self, implies_true, f5, f6, f18]))
    ·simp -dsimp (maxDischargeDepth := 9) only [go_sem, zA, zB, zC, zD, zE, zF, zG, gS, f5, f6, f18, g5, hw]
     exact roundQ_next (k + 1) _ ⟨rfl, g3', hgo (by simp only [other, g5, Bool.false_and, Bool.and_false])⟩ (by omega) (by simp -dsimp (maxDischargeDepth := 9) only [go_sem, zA, zB, zC, zD, zE, zF, zG, gS]) (leH_hp (by simp only [hpS, eq_self, implies_true, f5, f6, f18]) (by simp only [hpS, eq_self, implies_true, f5, f6, f18]))
   ·simp -dsimp (maxDischargeDepth := 9) only [go_sem, zA, zB, zC, zD, zE, zF, zG, gS, f5, f6, f18, g4, hw]
    exact roundQ_next (k + 1) _ ⟨rfl, g3', hgo (by simp only [other]; rw [show (!decide ((k : Int) = (i : Int))) = false by simpa using g4, Bool.false_and])⟩ (by omega) (by simp -dsimp (maxDischargeDepth := 9) only [go_sem, zA, zB, zC, zD, zE, zF, zG, gS]) (leH_hp (by simp only [hpS, eq_self, implies_true, f5, f6, f18]) (by simp only [hpS, eq_self, implies_true, f5, f6, f18]))
  have hyes : wellMode l i it = true := by
   rw [drop_end (by have := of_decide_eq_false g3; have := hl.len; omega)] at hrun
   simp only [wellMode, hb, g2, ← hrun]; rfl
  rw [hyes] at hK
  simp -dsimp (maxDischargeDepth := 9) only [go_sem, zA, zB, zC, zD, zE, zF, zG, gS, g3]
  exact retW_drop (G := H) (leH_hp0 (by simp only [hpS, eq_self, implies_true, f5, f6])) (retW_is hK)
 have e3 : it.kind ≠ 3 := of_decide_eq_false g1
 rw [if_neg e3] at hK
 simp -dsimp (maxDischargeDepth := 9) only [go_sem, zA, zB, zC, zD, zE, zF, zG, gS, g1]
 refine gif_split (fun g1 => ?_) (fun g1 => ?_)
 ·have e4 : it.kind = 4 := of_decide_eq_true g1
  rw [if_pos e4] at hK
  have hno : (wellClause l it = false) → K (.d (.bool false)) H := fun h => by rw [h] at hK; exact hK
  simp -dsimp (maxDischargeDepth := 9) only [go_sem, zA, zB, zC, zD, zE, zF, zG, gS, f5, f6, g1]
  refine builtin04_ok _ (keyOf it) _ ?_
  cases hb : isBuiltin (keyOf it) with
  | true =>
   simp -dsimp (maxDischargeDepth := 9) only [go_sem, zA, zB, zC, zD, zE, zF, zG, gS, f5, f6]
   exact retW_drop (G := H) (leH_hp0 (by simp only [hpS, eq_self, implies_true, f5, f6])) (retW_is (hno (by simp only [wellClause, hb]; simp)))
  | false =>
  simp -dsimp (maxDischargeDepth := 9) only [go_sem, zA, zB, zC, zD, zE, zF, zG, gS, f5, f6]
  refine count_ok _ l hl.len 2 (keyOf it) _ ?_
  simp -dsimp (maxDischargeDepth := 9) only [go_sem, zA, zB, zC, zD, zE, zF, zG, gS, f5, f6]
  refine gif_split (fun g2 => ?_) (fun g2 => ?_)
  ·simp -dsimp (maxDischargeDepth := 9) only [go_sem, zA, zB, zC, zD, zE, zF, zG, gS, f5, f6, g2]
   exact retW_drop (G := H) (leH_hp0 (by simp only [hpS, eq_self, implies_true, f5, f6])) (retW_is (hno (by simp only [wellClause, g2]; simp)))
  simp -dsimp (maxDischargeDepth := 9) only [go_sem, zA, zB, zC, zD, zE, zF, zG, gS, f5, f6, g2]
  rw [← hgd]
  refine goal04_ok l hl _ it.body (Nat.le_refl _) hs.body _ _ ?_
  cases hg : glOk l it.body with
  | false =>
   simp -dsimp (maxDischargeDepth := 9) only [go_sem, zA, zB, zC, zD, zE, zF, zG, gS, f5, f6]
   exact retW_drop (G := H) (leH_hp0 (by simp only [hpS, eq_self, implies_true, f5, f6])) (retW_is (hno (by simp only [wellClause, hg]; simp)))
  | true =>
  simp -dsimp (maxDischargeDepth := 9) only [go_sem, zA, zB, zC, zD, zE, zF, zG, gS, f5, f6]
  refine svc_loop (X := Nat) (fun j => [(0, .d (.slice (l.map It.d))), (171, .d (.slice (it.args.map Tm.d))), (172, .d (.int .i64 it.args.length)), (173, .d (.int .i64 j))])
   (fun j G => G = hp H [] ∧ j ≤ it.args.length ∧ tmOks l (it.args.drop j) = tmOks l it.args) (fun j => it.args.length - j) 0 _ ⟨rfl, by simp, by simp only [List.drop_zero]⟩ (by simp -dsimp (maxDischargeDepth := 9) only [go_sem, zA, zB, zC, zD, zE, zF, zG, gS]) (leH_hp0 (by simp only [hpS, eq_self, implies_true, f5, f6])) ?_
  rintro j G ⟨hG, hj, hty⟩
  rw [hG]
  simp -dsimp (maxDischargeDepth := 9) only [go_sem, zA, zB, zC, zD, zE, zF, zG, gS]
  refine gif_split (fun q1 => ?_) (fun q1 => ?_)
  ·have q1' : j < it.args.length := by have := of_decide_eq_true q1; omega
   obtain ⟨⟨tk, tn, ti, ta⟩, hx⟩ := list_at q1'
   have hal := hs.args.1
   have hwj := wrapN (k := j) (by omega)
   rw [drop_at hx] at hty
   simp only [tmOks] at hty
   simp -dsimp (maxDischargeDepth := 9) only [go_sem, zA, zB, zC, zD, zE, zF, zG, gS, q1, hx, Tm.d, Tm.cs]
   refine newK_hp (fun b20 f20 => ?_)
   simp only [off_cons, off_nil] at f20
   simp -dsimp (maxDischargeDepth := 9) only [go_sem, zA, zB, zC, zD, zE, zF, zG, gS, f20]
   refine term04_ok l hl _ (.mk tk tn ti ta) (Nat.le_refl _) (Tm.smalls_mem hs.args.2 _ (List.mem_of_getElem? hx)) _ _ ?_
   cases ht : tmOk l (.mk tk tn ti ta) with
   | true =>
    rw [ht, Bool.true_and] at hty
    simp -dsimp (maxDischargeDepth := 9) only [go_sem, zA, zB, zC, zD, zE, zF, zG, gS, f20, hwj]
    exact roundQ_next (j + 1) _ ⟨rfl, q1', hty⟩ (by omega) (by simp -dsimp (maxDischargeDepth := 9) only [go_sem, zA, zB, zC, zD, zE, zF, zG, gS]) (leH_hp0 (by simp only [hpS, eq_self, implies_true, f20]))
   | false =>
    rw [ht, Bool.false_and] at hty
    simp -dsimp (maxDischargeDepth := 9) only [go_sem, zA, zB, zC, zD, zE, zF, zG, gS, f20]
    exact retW_drop (G := H) (leH_hp0 (by simp only [hpS, eq_self, implies_true, f20])) (retW_is (hno (by simp only [wellClause, ← hty]; simp)))
  rw [drop_end (by have := of_decide_eq_false q1; omega)] at hty
  simp only [tmOks] at hty
  have hyes : wellClause l it = true := by simp only [wellClause, hb, g2, hg, ← hty]; rfl
  rw [hyes] at hK
  simp -dsimp (maxDischargeDepth := 9) only [go_sem, zA, zB, zC, zD, zE, zF, zG, gS, q1]
  exact retW_drop (G := H) (leH_hp0 (by simp only [hpS, eq_self, implies_true, ])) (retW_is hK)
 have e4 : it.kind ≠ 4 := of_decide_eq_false g1
 rw [if_neg e4] at hK
 simp -dsimp (maxDischargeDepth := 9) only [go_sem, zA, zB, zC, zD, zE, zF, zG, gS, g1]
 exact retW_drop (G := H) (leH_hp0 (by simp only [hpS, eq_self, implies_true, f5, f6])) (retW_is hK)
end Go.Aug
