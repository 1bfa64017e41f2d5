/- The contracts of the reference's index and of a text's items and index; conditions stand in each contract. -/
import Derived.Test.YtejfagblpbmokaaDoorNamesOne
import Derived.Test.YtejfagblpbmokaaDoorAugSix
set_option linter.all false
set_option linter.unusedVariables false
set_option linter.unusedSimpArgs false
set_option linter.unusedSectionVars false

/- The layer of names: the reference's index. -/
namespace Go.Aug
open Nat renaming reduceBEq → zA, reduceLT → zB, reduceAdd → zC, reduceSub → zD, reduceMul → zE, reduceLeDiff → zF
open Int renaming reduceLE → zG
open Go.Proofs
set_option maxRecDepth 100000
set_option linter.unusedSimpArgs false
attribute [local irreducible] hid andK letA onSome onVar onArr arrOnly onInt onBool onFunc onTup idxA ldV ldD addO appTo fillL slA srcK nilQ retW gif sgd sguard svc sops sdops sagain aopO aLoad aStore aBin aUn aConv aLen aIndexAddr aIndex aIndexAddrS aIndexS aSlice aAppend aBuild aBuildSlice aMakeSlice aField aFieldOf aCallOp deepK deepL frzM putE newK newV growV ACall roundQ thenQ inBlockQ sret cnd szs nilC onMap onRow aLookup aMapUpdate aMakeMap
attribute [local go_sem] Int.natCast_zero
structure Cr where
 key : Ky
 type : ByteArray
 vars : List ByteArray
 args : List Ty
 tag : Int
def Cr.cs (c : Cr) : List D := [.str c.key.name, .int .i64 c.key.ar, .str c.type, .slice (c.vars.map .str), .slice (c.args.map Ty.d), .int .i64 c.tag]
def Cr.d (c : Cr) : D := .agg c.cs
structure Ix where
 types : List It
 ctors : List Cr
 preds : List Pr
def Ix.cs (x : Ix) : List D := [.slice (x.types.map It.d), .slice (x.ctors.map Cr.d), .slice (x.preds.map Pr.d)]
def Ix.d (x : Ix) : D := .agg x.cs
def ctsFrom (it : It) : Nat → List Ct → List Cr
 | _, [] => []
 | k, c :: cs => ⟨⟨c.name, c.args.length⟩, it.name, it.vars, c.args, k⟩ :: ctsFrom it (k + 1) cs
def modesOf (l : List It) (q : Ky) : List Md := (l.filter (isOf 3 q)).map fun y => ⟨y.ways, y.det⟩
def clsFrom (q : Ky) : Nat → List It → List Int
 | _, [] => []
 | j, y :: ys => if isOf 4 q y = true then (j : Int) :: clsFrom q (j + 1) ys else clsFrom q (j + 1) ys
def prOf (l : List It) (it : It) : Pr := ⟨keyOf it, it.types, modesOf l (keyOf it), clsFrom (keyOf it) 0 l⟩
def rstep (l : List It) (x : Ix) (it : It) : Ix :=
 if it.kind = 1 then ⟨x.types ++ [it], x.ctors ++ ctsFrom it 0 it.ctors, x.preds⟩
 else if it.kind = 2 then ⟨x.types, x.ctors, x.preds ++ [prOf l it]⟩ else x
def rfrom (l : List It) : Nat → List It → Ix → Option Ix
 | _, [], x => some x
 | i, it :: rest, x => if rwell l i it = true then rfrom l (i + 1) rest (rstep l x it) else none
/-- A source's index; none: it is not well named. -/
def rresolve (l : List It) : Option Ix := rfrom l 0 l ⟨[], [], builtinsL⟩
def ixD (o : Option Ix) : D := (o.getD ⟨[], [], []⟩).d
theorem preds04_new {eb : EbG} (H : Heap) (K : A → Heap → Prop) (hK : ∀ b v, H b = none → v.ownBlock = some b → K (.own b v) (upd H b (.arr 36 5 v (builtinsL.map Pr.d)))) : ACall Tryd.prog (seatV eb) 54 [] H K :=
 (preds04_own H).mono fun _ _ ⟨b, v, h1, h2, h3, h4⟩ => by rw [h1, h4]; exact hK b v h2 h3
/-- The index while it is made. -/
structure IxX where
 k : Nat
 x : Ix
 t : A
 c : A
 p : A
 R : Heap
abbrev pcT (l : List It) (a : A) : Pc := ⟨68, 20, l.map It.d, a⟩
abbrev pcC (l : List Cr) (a : A) : Pc := ⟨81, 6, l.map Cr.d, a⟩
abbrev pcM (l : List Md) (a : A) : Pc := ⟨117, 2, l.map Md.d, a⟩
abbrev pcI (l : List Int) (a : A) : Pc := ⟨3, 1, l.map (.int .i64), a⟩
abbrev Ix.ps (x : Ix) (t c p : A) : List Pc := [pcT x.types t, pcC x.ctors c, pcP x.preds p]
structure IxJ (H : Heap) (b2 b4 : Nat) (l : List It) (x : IxX) (G : Heap) : Prop where
 is : G = hp x.R [(b2, .var [.nils, .nils, .nils]), (b4, .var [x.t, x.c, x.p])]
 acc : AccN H [b2, b4] (x.x.ps x.t x.c x.p) x.R
 le : x.k ≤ l.length
 run : rfrom l x.k (l.drop x.k) x.x = rresolve l
 few : x.x.types.length ≤ x.k ∧ x.x.ctors.length ≤ x.k * 32768 ∧ x.x.preds.length ≤ 7 + x.k
/-- A source that the reference's names take. -/
structure Srcs (l : List It) : Prop where
 len : l.length ≤ 1048576
 small : ∀ it ∈ l, it.small
theorem Srcs.src {l : List It} (h : Srcs l) : Src l := ⟨h.len, fun it hit => (h.small it hit).nct⟩
set_option maxHeartbeats 8000000 in
theorem resolve04_ok {eb : EbG} (l : List It) (hl : Srcs l) (H : Heap) (K : A → Heap → Prop) (hK : K (.tup [.d (ixD (rresolve l)), .d (.bool (rresolve l).isSome)]) H) :
  ACall Tryd.prog (seatV eb) 20 [.d (.slice (l.map It.d))] H K := by
 have hlen := hl.len
 refine ACall.hp_start ?_
 refine ACall.by mixed fn20 (by simp) ?_
 conv in s20 => cbv
 refine svc_start ?_
 simp -dsimp (maxDischargeDepth := 9) only [go_sem, zA, zB, zC, zD, zE, zF, zG, gS]
 refine newK_hp (fun b2 f2 => ?_)
 simp only [off_cons, off_nil] at f2
 simp -dsimp (maxDischargeDepth := 9) only [go_sem, zA, zB, zC, zD, zE, zF, zG, gS, f2]
 refine preds04_new _ _ (fun b7 v7 h7 w7 => ?_)
 have f7 := off_of h7
 simp only [off_cons, off_nil] at f7
 simp -dsimp (maxDischargeDepth := 9) only [go_sem, zA, zB, zC, zD, zE, zF, zG, gS, f2, f7]
 refine newK_hp (fun b4 f4 => ?_)
 simp only [off_cons, off_nil] at f4
 simp -dsimp (maxDischargeDepth := 9) only [go_sem, zA, zB, zC, zD, zE, zF, zG, gS, f2, f7, f4]
 refine svc_loop (X := IxX) (fun x => [(0, .d (.slice (l.map It.d))), (2, .ref b2 0), (4, .ref b4 0), (14, .d (.slice (l.map It.d))), (15, .d (.int .i64 l.length)), (16, .d (.int .i64 x.k))])
  (IxJ H b2 b4 l) (fun x => l.length - x.k) ⟨0, ⟨[], [], builtinsL⟩, .nils, .nils, .own b7 v7, upd H b7 (.arr 36 5 v7 (builtinsL.map Pr.d))⟩ _
  ⟨rfl, (((AccN.none H [b2, b4]).new (by simp only [hpS, eq_self, implies_true, f7, f4, f2]) f7.2.2 w7).nil _ _).nil _ _, by simp, rfl, by simp [builtinsL]⟩ (by simp -dsimp (maxDischargeDepth := 9) only [go_sem, zA, zB, zC, zD, zE, zF, zG, gS]) (by rw [hp_base (by simp only [hpS, eq_self, implies_true, f7, f4])]; exact (leH_hp (by simp only [hpS, eq_self, implies_true, f2, f7, f4, setL_cons, setL_nil]) (by simp only [hpS, eq_self, implies_true, f2, f7, f4, setL_cons, setL_nil]))) ?_
 rintro ⟨k, x, t, c, p, R⟩ G ⟨hG, hacc, hk, hrun, hfT, hfC, hfP⟩
 simp only at hG hacc hk hrun hfT hfC hfP
 subst hG
 simp -dsimp (maxDischargeDepth := 9) only [go_sem, zA, zB, zC, zD, zE, zF, zG, gS]
 refine gif_split (fun g1 => ?_) (fun g1 => ?_)
 ·have g1' : k < l.length := by have := of_decide_eq_true g1; omega
  obtain ⟨it, hx⟩ := list_at g1'
  have hmem := List.mem_of_getElem? hx
  have hsm := hl.small it hmem
  have hw := wrapN (k := k) (by omega)
  rw [drop_at hx] at hrun
  simp only [rfrom] at hrun
  obtain ⟨x1, x2, x3, x4, x5, x6, x7, x8, x9, x10, x11, x12, hbody, hd⟩ := it.opn
  simp -dsimp (maxDischargeDepth := 9) only [go_sem, zA, zB, zC, zD, zE, zF, zG, gS, g1, hx, hd]
  refine newK_hp (fun b6 f6 => ?_)
  simp only [off_cons, off_nil] at f6
  simp -dsimp (maxDischargeDepth := 9) only [go_sem, zA, zB, zC, zD, zE, zF, zG, gS, f2, f4, f6]
  refine well_ok l hl.src (fun y hy => Nat.le_trans (hl.small y hy).ways (by decide)) k it hx hsm _ _ ?_
  cases hwl : rwell l k it with
  | false =>
   rw [hwl] at hrun
   simp only [Bool.false_eq_true, if_false] at hrun
   rw [← hrun] at hK
   simp -dsimp (maxDischargeDepth := 9) only [go_sem, zA, zB, zC, zD, zE, zF, zG, gS, f2, f4, f6]
   refine retW_tup [true, true] ?_
   simp -dsimp (maxDischargeDepth := 9) only [go_sem, zA, zB, zC, zD, zE, zF, zG, gS, f2, f4, f6]
   have f6H := hacc.le.free f6.2.2.2.2
   exact retW_drop (G := H) (leH_hp02 hacc.le (by simp only [hpS, eq_self, implies_true, f2, f4, f6H])) (retW_is hK)
  | true =>
   rw [hwl, if_pos rfl] at hrun
   simp -dsimp (maxDischargeDepth := 9) only [go_sem, zA, zB, zC, zD, zE, zF, zG, gS, f2, f4, f6]
   refine gif_split (fun g2 => ?_) (fun g2 => ?_)
   ·have e1 : it.kind = 1 := of_decide_eq_true g2
    rw [rstep, if_pos e1] at hrun
    simp -dsimp (maxDischargeDepth := 9) only [go_sem, zA, zB, zC, zD, zE, zF, zG, gS, f2, f4, f6, g2]
    refine newV_hp (fun b33 v33 f33 w33 => ?_)
    simp only [off_cons, off_nil] at f33
    simp -dsimp (maxDischargeDepth := 9) only [go_sem, zA, zB, zC, zD, zE, zF, zG, gS, f2, f4, f6, f33]
    refine AccN.appTo (pre := []) (p := pcT x.types t) (post := [pcC x.ctors c, pcP x.preds p]) hacc (by simp only [hpS, eq_self, implies_true, f2, f4, f6, f33]) (by simp only [hpS, eq_self, implies_true, f4]) (by simp only [List.length_map, List.length_cons, List.length_nil]; omega) (fun t' R' hacc' hn => ?_)
    have f6' := hn b6 (by simp only [hpS, eq_self, implies_true, f2, f4, f6, f33]) f6.2.2.2.2
    have f33' := hn b33 (by simp only [hpS, eq_self, implies_true, f2, f4, f6, f33]) f33.2.2.2.2.2.2
    have hacc' : AccN H [b2, b4] [pcT (x.types ++ [it]) t', pcC x.ctors c, pcP x.preds p] R' := by
     have e : (x.types ++ [it]).map It.d = x.types.map It.d ++ [.agg [.int .i64 it.kind, .str it.name, .slice (it.vars.map .str), .slice (it.ctors.map Ct.d), .slice (it.types.map Ty.d), .slice (it.ways.map .bool), .int .i64 it.det, .slice (it.args.map Tm.d), x1, x2, x3, x4, x5, x6, x7, x8, x9, x10, x11, x12]] := by simp [hd]
     simp only [pcT, e]; exact hacc'
    have hone := AccN.one (pre := []) hacc'
    simp -dsimp (maxDischargeDepth := 9) only [go_sem, zA, zB, zC, zD, zE, zF, zG, gS, f2, f4, f6, f33, hone]
    refine svc_loop (X := Nat × List Cr × A × Heap) (fun y => [(0, .d (.slice (l.map It.d))), (2, .ref b2 0), (4, .ref b4 0), (6, .ref b6 0), (14, .d (.slice (l.map It.d))), (15, .d (.int .i64 l.length)), (16, .d (.int .i64 k)), (37, .d (.slice (it.ctors.map Ct.d))), (38, .d (.int .i64 it.ctors.length)), (39, .d (.int .i64 y.1))])
     (fun y G => G = hp y.2.2.2 [(b2, .var [.nils, .nils, .nils]), (b4, .var [t', y.2.2.1, p]), (b6, .var [.d (.int .i64 it.kind), .d (.str it.name), .d (.slice (it.vars.map .str)), .d (.slice (it.ctors.map Ct.d)), .d (.slice (it.types.map Ty.d)), .d (.slice (it.ways.map .bool)), .d (.int .i64 it.det), .d (.slice (it.args.map Tm.d)), .d x1, .d x2, .d x3, .d x4, .d x5, .d x6, .d x7, .d x8, .d x9, .d x10, .d x11, .d x12])] ∧ AccN H [b2, b4] [pcT (x.types ++ [it]) t', pcC y.2.1 y.2.2.1, pcP x.preds p] y.2.2.2 ∧ y.2.2.2 b6 = none ∧ y.1 ≤ it.ctors.length ∧ y.2.1 ++ ctsFrom it y.1 (it.ctors.drop y.1) = x.ctors ++ ctsFrom it 0 it.ctors ∧ y.2.1.length ≤ x.ctors.length + y.1)
     (fun y => it.ctors.length - y.1) (0, x.ctors, c, R') _ ⟨rfl, hacc', f6', by simp, by simp, by simp⟩ (by simp -dsimp (maxDischargeDepth := 9) only [go_sem, zA, zB, zC, zD, zE, zF, zG, gS]) (leH_hp (by simp only [hpS, eq_self, implies_true, f2, f4, f6, f33, f33']) (by simp only [hpS, eq_self, implies_true, f2, f4, f6, f33, f33'])) ?_
    rintro ⟨j, cs, c2, R2⟩ G ⟨hG, hacc2, f62, hj, hcs, hcl⟩
    simp only at hG hacc2 f62 hj hcs hcl
    subst hG
    have hnc := hsm.nct
    simp -dsimp (maxDischargeDepth := 9) only [go_sem, zA, zB, zC, zD, zE, zF, zG, gS]
    refine gif_split (fun g3 => ?_) (fun g3 => ?_)
    ·have g3' : j < it.ctors.length := by have := of_decide_eq_true g3; omega
     obtain ⟨q, hq⟩ := list_at g3'
     have hwj := wrapN (k := j) (by omega)
     rw [drop_at hq] at hcs
     simp only [ctsFrom] at hcs
     simp -dsimp (maxDischargeDepth := 9) only [go_sem, zA, zB, zC, zD, zE, zF, zG, gS, g3, hq, Ct.d, Ct.cs]
     refine newK_hp (fun b8 f8 => ?_)
     simp only [off_cons, off_nil] at f8
     simp -dsimp (maxDischargeDepth := 9) only [go_sem, zA, zB, zC, zD, zE, zF, zG, gS, f2, f4, f6, f62, f8]
     refine newV_hp (fun b60 v60 f60 w60 => ?_)
     simp only [off_cons, off_nil] at f60
     simp -dsimp (maxDischargeDepth := 9) only [go_sem, zA, zB, zC, zD, zE, zF, zG, gS, f2, f4, f6, f62, f8, f60]
     refine AccN.appTo (pre := [pcT (x.types ++ [it]) t']) (p := pcC cs c2) (post := [pcP x.preds p]) hacc2 (by simp only [hpS, eq_self, implies_true, f2, f4, f6, f62, f8, f60]) (by simp only [hpS, eq_self, implies_true, f4]) (by simp only [List.length_map, List.length_cons, List.length_nil]; omega) (fun c3 R3 hacc3 hn3 => ?_)
     have f63 := hn3 b6 (by simp only [hpS, eq_self, implies_true, f2, f4, f6, f62, f8, f60]) f62
     have f83 := hn3 b8 (by simp only [hpS, eq_self, implies_true, f2, f4, f6, f62, f8, f60]) f8.2.2.2.2.2.2
     have f603 := hn3 b60 (by simp only [hpS, eq_self, implies_true, f2, f4, f6, f62, f8, f60]) f60.2.2.2.2.2.2.2.2
     have hacc3 : AccN H [b2, b4] [pcT (x.types ++ [it]) t', pcC (cs ++ [⟨⟨q.name, q.args.length⟩, it.name, it.vars, q.args, j⟩]) c3, pcP x.preds p] R3 := by
      simp only [pcC, List.map_append, List.map_cons, List.map_nil, Cr.d, Cr.cs]; exact hacc3
     have hone3 := AccN.one (pre := [pcT (x.types ++ [it]) t']) hacc3
     simp -dsimp (maxDischargeDepth := 9) only [go_sem, zA, zB, zC, zD, zE, zF, zG, gS, f2, f4, f6, f8, f60, hone3, hwj]
     refine roundQ_next (j + 1, cs ++ [⟨⟨q.name, q.args.length⟩, it.name, it.vars, q.args, j⟩], c3, R3) _ ⟨rfl, hacc3, f63, g3', by rw [← hcs]; simp, by simp only [List.length_append, List.length_cons, List.length_nil]; omega⟩ (by simp only; omega) (by simp -dsimp (maxDischargeDepth := 9) only [go_sem, zA, zB, zC, zD, zE, zF, zG, gS]) (leH_hp (by simp only [hpS, eq_self, implies_true, f2, f4, f6, f8, f60, f63, f83, f603]) (by simp only [hpS, eq_self, implies_true, f2, f4, f6, f8, f60, f63, f83, f603]))
    ·have hfin : cs = x.ctors ++ ctsFrom it 0 it.ctors := by
      rw [drop_end (by have := of_decide_eq_false g3; omega)] at hcs
      simpa [ctsFrom] using hcs
     simp -dsimp (maxDischargeDepth := 9) only [go_sem, zA, zB, zC, zD, zE, zF, zG, gS, g3, hw]
     refine roundQ_next ⟨k + 1, ⟨x.types ++ [it], cs, x.preds⟩, t', c2, p, R2⟩ _ ⟨rfl, hacc2, g1', by rw [hfin]; exact hrun, by simp only [List.length_append, List.length_cons, List.length_nil]; omega⟩ (by simp only; omega) (by simp -dsimp (maxDischargeDepth := 9) only [go_sem, zA, zB, zC, zD, zE, zF, zG, gS]) (leH_hp (by simp only [hpS, eq_self, implies_true, f2, f4, f6, f62]) (by simp only [hpS, eq_self, implies_true, f2, f4, f6, f62]))
   ·have e1 : it.kind ≠ 1 := of_decide_eq_false g2
    simp -dsimp (maxDischargeDepth := 9) only [go_sem, zA, zB, zC, zD, zE, zF, zG, gS, f2, f4, f6, g2]
    refine gif_split (fun g3 => ?_) (fun g3 => ?_)
    ·have e2 : it.kind = 2 := of_decide_eq_true g3
     rw [rstep, if_neg e1, if_pos e2] at hrun
     simp -dsimp (maxDischargeDepth := 9) only [go_sem, zA, zB, zC, zD, zE, zF, zG, gS, f2, f4, f6, g3]
     refine (fun (key2 : ∀ b9 : Nat, (eqn b9 b2 = false ∧ eqn b2 b9 = false ∧ eqn b9 b4 = false ∧ eqn b4 b9 = false ∧ eqn b9 b6 = false ∧ eqn b6 b9 = false ∧ R b9 = none) → (?T2 : Nat → Prop) b9) => ?main2) ?rest2
     case main2 =>
      rw [← hd]
      refine And.intro ?_ ?_
      ·refine keyOf_ok _ it _ ?_
       simp -dsimp (maxDischargeDepth := 9) only [go_sem, zA, zB, zC, zD, zE, zF, zG, gS, f2, f4, f6, hd, Ky.d, Ky.cs]
       refine And.intro ?_ ?_
       ·refine newK_hp (fun b9 f9 => ?_)
        simp only [off_cons, off_nil] at f9
        simp -dsimp (maxDischargeDepth := 9) only [go_sem, zA, zB, zC, zD, zE, zF, zG, gS, f2, f4, f6, f9, hd]
        refine svc_loop (X := Nat × List Md × List Int × A × A × Heap) (fun y => [(0, .d (.slice (l.map It.d))), (2, .ref b2 0), (4, .ref b4 0), (9, .ref b9 0), (14, .d (.slice (l.map It.d))), (15, .d (.int .i64 l.length)), (16, .d (.int .i64 k)), (71, .d (.slice (l.map It.d))), (72, .d (.int .i64 l.length)), (73, .d (.int .i64 y.1))])
         (fun y G => G = hp y.2.2.2.2.2 [(b2, .var [.nils, .nils, .nils]), (b4, .var [t, c, p]), (b9, .var [.d (.str (keyOf it).name), .d (.int .i64 (keyOf it).ar), .d (.slice (it.types.map Ty.d)), y.2.2.2.1, y.2.2.2.2.1])] ∧ AccN H [b2, b4] [pcM y.2.1 y.2.2.2.1, pcI y.2.2.1 y.2.2.2.2.1, pcT x.types t, pcC x.ctors c, pcP x.preds p] y.2.2.2.2.2 ∧ y.2.2.2.2.2 b9 = none ∧ y.1 ≤ l.length ∧ y.2.1 ++ modesOf (l.drop y.1) (keyOf it) = modesOf l (keyOf it) ∧ y.2.2.1 ++ clsFrom (keyOf it) y.1 (l.drop y.1) = clsFrom (keyOf it) 0 l ∧ y.2.1.length ≤ y.1 ∧ y.2.2.1.length ≤ y.1)
         (fun y => l.length - y.1) (0, [], [], .nils, .nils, R) _ ⟨rfl, (hacc.nil _ _).nil _ _, f9.2.2.2.2.2.2, by simp, by simp, by simp, by simp, by simp⟩ (by simp -dsimp (maxDischargeDepth := 9) only [go_sem, zA, zB, zC, zD, zE, zF, zG, gS]) (leH_hp (by simp only [hpS, eq_self, implies_true, f2, f4, f6, f9]) (by simp only [hpS, eq_self, implies_true, f2, f4, f6, f9])) ?_
        exact key2 b9 f9
       ·refine newK_hp (fun b9 f9 => ?_)
        simp only [off_cons, off_nil] at f9
        simp -dsimp (maxDischargeDepth := 9) only [go_sem, zA, zB, zC, zD, zE, zF, zG, gS, f2, f4, f6, f9, hd]
        refine svc_loop (X := Nat × List Md × List Int × A × A × Heap) (fun y => [(0, .d (.slice (l.map It.d))), (2, .ref b2 0), (4, .ref b4 0), (9, .ref b9 0), (14, .d (.slice (l.map It.d))), (15, .d (.int .i64 l.length)), (16, .d (.int .i64 k)), (71, .d (.slice (l.map It.d))), (72, .d (.int .i64 l.length)), (73, .d (.int .i64 y.1))])
         (fun y G => G = hp y.2.2.2.2.2 [(b2, .var [.nils, .nils, .nils]), (b4, .var [t, c, p]), (b9, .var [.d (.str (keyOf it).name), .d (.int .i64 (keyOf it).ar), .d (.slice (it.types.map Ty.d)), y.2.2.2.1, y.2.2.2.2.1])] ∧ AccN H [b2, b4] [pcM y.2.1 y.2.2.2.1, pcI y.2.2.1 y.2.2.2.2.1, pcT x.types t, pcC x.ctors c, pcP x.preds p] y.2.2.2.2.2 ∧ y.2.2.2.2.2 b9 = none ∧ y.1 ≤ l.length ∧ y.2.1 ++ modesOf (l.drop y.1) (keyOf it) = modesOf l (keyOf it) ∧ y.2.2.1 ++ clsFrom (keyOf it) y.1 (l.drop y.1) = clsFrom (keyOf it) 0 l ∧ y.2.1.length ≤ y.1 ∧ y.2.2.1.length ≤ y.1)
         (fun y => l.length - y.1) (0, [], [], .nils, .nils, R) _ ⟨rfl, (hacc.nil _ _).nil _ _, f9.2.2.2.2.2.2, by simp, by simp, by simp, by simp, by simp⟩ (by simp -dsimp (maxDischargeDepth := 9) only [go_sem, zA, zB, zC, zD, zE, zF, zG, gS]) (leH_hp (by simp only [hpS, eq_self, implies_true, f2, f4, f6, f9]) (by simp only [hpS, eq_self, implies_true, f2, f4, f6, f9])) ?_
        exact key2 b9 f9
      ·refine newK_hp (fun b9 f9 => ?_)
       simp only [off_cons, off_nil] at f9
       simp -dsimp (maxDischargeDepth := 9) only [go_sem, zA, zB, zC, zD, zE, zF, zG, gS, f2, f4, f6, f9, hd]
       rw [← hd]
       refine keyOf_ok _ it _ ?_
       simp -dsimp (maxDischargeDepth := 9) only [go_sem, zA, zB, zC, zD, zE, zF, zG, gS, f2, f4, f6, f9, hd, Ky.d, Ky.cs]
       refine svc_loop (X := Nat × List Md × List Int × A × A × Heap) (fun y => [(0, .d (.slice (l.map It.d))), (2, .ref b2 0), (4, .ref b4 0), (9, .ref b9 0), (14, .d (.slice (l.map It.d))), (15, .d (.int .i64 l.length)), (16, .d (.int .i64 k)), (71, .d (.slice (l.map It.d))), (72, .d (.int .i64 l.length)), (73, .d (.int .i64 y.1))])
        (fun y G => G = hp y.2.2.2.2.2 [(b2, .var [.nils, .nils, .nils]), (b4, .var [t, c, p]), (b9, .var [.d (.str (keyOf it).name), .d (.int .i64 (keyOf it).ar), .d (.slice (it.types.map Ty.d)), y.2.2.2.1, y.2.2.2.2.1])] ∧ AccN H [b2, b4] [pcM y.2.1 y.2.2.2.1, pcI y.2.2.1 y.2.2.2.2.1, pcT x.types t, pcC x.ctors c, pcP x.preds p] y.2.2.2.2.2 ∧ y.2.2.2.2.2 b9 = none ∧ y.1 ≤ l.length ∧ y.2.1 ++ modesOf (l.drop y.1) (keyOf it) = modesOf l (keyOf it) ∧ y.2.2.1 ++ clsFrom (keyOf it) y.1 (l.drop y.1) = clsFrom (keyOf it) 0 l ∧ y.2.1.length ≤ y.1 ∧ y.2.2.1.length ≤ y.1)
        (fun y => l.length - y.1) (0, [], [], .nils, .nils, R) _ ⟨rfl, (hacc.nil _ _).nil _ _, f9.2.2.2.2.2.2, by simp, by simp, by simp, by simp, by simp⟩ (by simp -dsimp (maxDischargeDepth := 9) only [go_sem, zA, zB, zC, zD, zE, zF, zG, gS]) (leH_hp (by simp only [hpS, eq_self, implies_true, f2, f4, f6, f9]) (by simp only [hpS, eq_self, implies_true, f2, f4, f6, f9])) ?_
       exact key2 b9 f9
     case rest2 =>
      intro b9 f9
      rintro ⟨j, ms, cs, a1, a2, R1⟩ G ⟨hG, hacc1, f91, hj, hms, hcs, hml, hcl⟩
      simp only at hG hacc1 f91 hj hms hcs hml hcl
      subst hG
      simp -dsimp (maxDischargeDepth := 9) only [go_sem, zA, zB, zC, zD, zE, zF, zG, gS]
      refine gif_split (fun q1 => ?_) (fun q1 => ?_)
      ·have q1' : j < l.length := by have := of_decide_eq_true q1; omega
       obtain ⟨y, hy⟩ := list_at q1'
       have hwj := wrapN (k := j) (by omega)
       rw [drop_at hy] at hms hcs
       simp only [clsFrom] at hcs
       obtain ⟨z1, z2, z3, z4, z5, z6, z7, z8, z9, z10, z11, z12, _, hdy⟩ := y.opn
       have hkey : ∀ a b : Ky, (decide (a.name = b.name) && decide (a.ar = b.ar)) = Ky.eqb a b := fun _ _ => rfl
       simp -dsimp (maxDischargeDepth := 9) only [go_sem, zA, zB, zC, zD, zE, zF, zG, gS, q1, hy, hdy]
       refine newK_hp (fun b11 f11 => ?_)
       simp only [off_cons, off_nil] at f11
       simp -dsimp (maxDischargeDepth := 9) only [go_sem, zA, zB, zC, zD, zE, zF, zG, gS, f2, f4, f9, f91, f11]
       refine gif_split (fun q2 => ?_) (fun q2 => ?_)
       ·have q2' : y.kind = 3 := of_decide_eq_true q2
        have q4 : decide (y.kind = 4) = false := by rw [q2']; decide
        have hn4 : isOf 4 (keyOf it) y = false := by simp only [isOf, q4, Bool.false_and]
        rw [hn4] at hcs
        simp only [Bool.false_eq_true, if_false] at hcs
        simp -dsimp (maxDischargeDepth := 9) only [go_sem, zA, zB, zC, zD, zE, zF, zG, gS, f2, f4, f9, f91, f11, q2]
        rw [← hdy]
        refine keyOf_ok _ y _ ?_
        simp -dsimp (maxDischargeDepth := 9) only [go_sem, zA, zB, zC, zD, zE, zF, zG, gS, f2, f4, f9, f91, f11, hdy, Ky.d, Ky.cs]
        rw [hkey]
        cases hq : Ky.eqb (keyOf y) (keyOf it) with
        | true =>
         have h3 : isOf 3 (keyOf it) y = true := by simp only [isOf, q2, hq, Bool.and_self]
         simp only [modesOf, List.filter_cons, h3, if_true, List.map_cons] at hms
         simp -dsimp (maxDischargeDepth := 9) only [go_sem, zA, zB, zC, zD, zE, zF, zG, gS, f2, f4, f9, f91, f11]
         refine newV_hp (fun b95 v95 f95 w95 => ?_)
         simp only [off_cons, off_nil] at f95
         simp -dsimp (maxDischargeDepth := 9) only [go_sem, zA, zB, zC, zD, zE, zF, zG, gS, f2, f4, f9, f91, f11, f95]
         refine AccN.appTo (pre := []) (p := pcM ms a1) (post := [pcI cs a2, pcT x.types t, pcC x.ctors c, pcP x.preds p]) hacc1 (by simp only [hpS, eq_self, implies_true, f2, f4, f9, f91, f11, f95]) (by simp only [hpS, eq_self, implies_true, f4]) (by simp only [List.length_map, List.length_cons, List.length_nil]; omega) (fun a3 R3 hacc3 hn3 => ?_)
         have f93 := hn3 b9 (by simp only [hpS, eq_self, implies_true, f2, f4, f9, f91, f11, f95]) f91
         have f113 := hn3 b11 (by simp only [hpS, eq_self, implies_true, f2, f4, f9, f91, f11, f95]) f11.2.2.2.2.2.2
         have f953 := hn3 b95 (by simp only [hpS, eq_self, implies_true, f2, f4, f9, f91, f11, f95]) f95.2.2.2.2.2.2.2.2
         have hacc3 : AccN H [b2, b4] [pcM (ms ++ [⟨y.ways, y.det⟩]) a3, pcI cs a2, pcT x.types t, pcC x.ctors c, pcP x.preds p] R3 := by
          simp only [pcM, List.map_append, List.map_cons, List.map_nil, Md.d, Md.cs]; exact hacc3
         have hone3 := AccN.one (pre := []) hacc3
         simp -dsimp (maxDischargeDepth := 9) only [go_sem, zA, zB, zC, zD, zE, zF, zG, gS, f2, f4, f9, f11, f95, hone3, hwj, q4]
         refine roundQ_next (j + 1, ms ++ [⟨y.ways, y.det⟩], cs, a3, a2, R3) _ ⟨rfl, hacc3, f93, q1', by simp only [modesOf]; rw [← hms]; simp, hcs, by simp only [List.length_append, List.length_cons, List.length_nil]; omega, by simp only; omega⟩ (by simp only; omega) (by simp -dsimp (maxDischargeDepth := 9) only [go_sem, zA, zB, zC, zD, zE, zF, zG, gS]) (leH_hp (by simp only [hpS, eq_self, implies_true, f2, f4, f9, f11, f95, f93, f113, f953]) (by simp only [hpS, eq_self, implies_true, f2, f4, f9, f11, f95, f93, f113, f953]))
        | false =>
         have h3 : isOf 3 (keyOf it) y = false := by simp only [isOf, hq, Bool.and_false]
         simp only [modesOf, List.filter_cons, h3, Bool.false_eq_true, if_false] at hms
         simp -dsimp (maxDischargeDepth := 9) only [go_sem, zA, zB, zC, zD, zE, zF, zG, gS, f2, f4, f9, f91, f11, hwj, q4]
         refine roundQ_next (j + 1, ms, cs, a1, a2, R1) _ ⟨rfl, hacc1, f91, q1', hms, hcs, by simp only; omega, by simp only; omega⟩ (by simp only; omega) (by simp -dsimp (maxDischargeDepth := 9) only [go_sem, zA, zB, zC, zD, zE, zF, zG, gS]) (leH_hp (by simp only [hpS, eq_self, implies_true, f2, f4, f9, f11, f91]) (by simp only [hpS, eq_self, implies_true, f2, f4, f9, f11, f91]))
       ·have h3 : isOf 3 (keyOf it) y = false := by simp only [isOf, q2, Bool.false_and]
        simp only [modesOf, List.filter_cons, h3, Bool.false_eq_true, if_false] at hms
        simp -dsimp (maxDischargeDepth := 9) only [go_sem, zA, zB, zC, zD, zE, zF, zG, gS, f2, f4, f9, f91, f11, q2]
        refine gif_split (fun q3 => ?_) (fun q3 => ?_)
        ·simp -dsimp (maxDischargeDepth := 9) only [go_sem, zA, zB, zC, zD, zE, zF, zG, gS, f2, f4, f9, f91, f11, q3]
         rw [← hdy]
         refine keyOf_ok _ y _ ?_
         simp -dsimp (maxDischargeDepth := 9) only [go_sem, zA, zB, zC, zD, zE, zF, zG, gS, f2, f4, f9, f91, f11, hdy, Ky.d, Ky.cs]
         rw [hkey]
         cases hq : Ky.eqb (keyOf y) (keyOf it) with
         | true =>
          have h4 : isOf 4 (keyOf it) y = true := by simp only [isOf, q3, hq, Bool.and_self]
          rw [h4, if_pos rfl] at hcs
          simp -dsimp (maxDischargeDepth := 9) only [go_sem, zA, zB, zC, zD, zE, zF, zG, gS, f2, f4, f9, f91, f11]
          refine newV_hp (fun b95 v95 f95 w95 => ?_)
          simp only [off_cons, off_nil] at f95
          simp -dsimp (maxDischargeDepth := 9) only [go_sem, zA, zB, zC, zD, zE, zF, zG, gS, f2, f4, f9, f91, f11, f95]
          refine AccN.appTo (pre := [pcM ms a1]) (p := pcI cs a2) (post := [pcT x.types t, pcC x.ctors c, pcP x.preds p]) hacc1 (by simp only [hpS, eq_self, implies_true, f2, f4, f9, f91, f11, f95]) (by simp only [hpS, eq_self, implies_true, f4]) (by simp only [List.length_map, List.length_cons, List.length_nil]; omega) (fun a3 R3 hacc3 hn3 => ?_)
          have f93 := hn3 b9 (by simp only [hpS, eq_self, implies_true, f2, f4, f9, f91, f11, f95]) f91
          have f113 := hn3 b11 (by simp only [hpS, eq_self, implies_true, f2, f4, f9, f91, f11, f95]) f11.2.2.2.2.2.2
          have f953 := hn3 b95 (by simp only [hpS, eq_self, implies_true, f2, f4, f9, f91, f11, f95]) f95.2.2.2.2.2.2.2.2
          have hacc3 : AccN H [b2, b4] [pcM ms a1, pcI (cs ++ [(j : Int)]) a3, pcT x.types t, pcC x.ctors c, pcP x.preds p] R3 := by
           simp only [pcI, List.map_append, List.map_cons, List.map_nil]; exact hacc3
          have hone3 := AccN.one (pre := [pcM ms a1]) hacc3
          simp -dsimp (maxDischargeDepth := 9) only [go_sem, zA, zB, zC, zD, zE, zF, zG, gS, f2, f4, f9, f11, f95, hone3, hwj]
          refine roundQ_next (j + 1, ms, cs ++ [(j : Int)], a1, a3, R3) _ ⟨rfl, hacc3, f93, q1', hms, by rw [← hcs]; simp, by simp only; omega, by simp only [List.length_append, List.length_cons, List.length_nil]; omega⟩ (by simp only; omega) (by simp -dsimp (maxDischargeDepth := 9) only [go_sem, zA, zB, zC, zD, zE, zF, zG, gS]) (leH_hp (by simp only [hpS, eq_self, implies_true, f2, f4, f9, f11, f95, f93, f113, f953]) (by simp only [hpS, eq_self, implies_true, f2, f4, f9, f11, f95, f93, f113, f953]))
         | false =>
          have h4 : isOf 4 (keyOf it) y = false := by simp only [isOf, hq, Bool.and_false]
          rw [h4] at hcs
          simp only [Bool.false_eq_true, if_false] at hcs
          simp -dsimp (maxDischargeDepth := 9) only [go_sem, zA, zB, zC, zD, zE, zF, zG, gS, f2, f4, f9, f91, f11, hwj]
          refine roundQ_next (j + 1, ms, cs, a1, a2, R1) _ ⟨rfl, hacc1, f91, q1', hms, hcs, by simp only; omega, by simp only; omega⟩ (by simp only; omega) (by simp -dsimp (maxDischargeDepth := 9) only [go_sem, zA, zB, zC, zD, zE, zF, zG, gS]) (leH_hp (by simp only [hpS, eq_self, implies_true, f2, f4, f9, f11, f91]) (by simp only [hpS, eq_self, implies_true, f2, f4, f9, f11, f91]))
        ·have h4 : isOf 4 (keyOf it) y = false := by simp only [isOf, q3, Bool.false_and]
         rw [h4] at hcs
         simp only [Bool.false_eq_true, if_false] at hcs
         simp -dsimp (maxDischargeDepth := 9) only [go_sem, zA, zB, zC, zD, zE, zF, zG, gS, f2, f4, f9, f91, f11, q3, hwj]
         refine roundQ_next (j + 1, ms, cs, a1, a2, R1) _ ⟨rfl, hacc1, f91, q1', hms, hcs, by simp only; omega, by simp only; omega⟩ (by simp only; omega) (by simp -dsimp (maxDischargeDepth := 9) only [go_sem, zA, zB, zC, zD, zE, zF, zG, gS]) (leH_hp (by simp only [hpS, eq_self, implies_true, f2, f4, f9, f11, f91]) (by simp only [hpS, eq_self, implies_true, f2, f4, f9, f11, f91]))
      ·have hend := of_decide_eq_false q1
       rw [drop_end (by omega)] at hms hcs
       have hm : ms = modesOf l (keyOf it) := by simpa [modesOf] using hms
       have hc : cs = clsFrom (keyOf it) 0 l := by simpa [clsFrom] using hcs
       have hal := fun s => AccN.allD (pre := []) hacc1 (t := s)
       simp -dsimp (maxDischargeDepth := 9) only [go_sem, zA, zB, zC, zD, zE, zF, zG, gS, q1, f2, f4, f9, f91, hal]
       refine AccN.deep (pre := []) (p := pcM ms a1) (post := [pcI cs a2, pcT x.types t, pcC x.ctors c, pcP x.preds p]) hacc1 (by simp only [hpS, eq_self, implies_true, f2, f4, f9, f91]) (fun R2 hacc2 hn2 => ?_)
       have f92 := hn2 b9 f91
       simp -dsimp (maxDischargeDepth := 9) only [go_sem, zA, zB, zC, zD, zE, zF, zG, gS, f2, f4, f9, f92]
       refine AccN.deep (pre := []) (p := pcI cs a2) (post := [pcT x.types t, pcC x.ctors c, pcP x.preds p]) hacc2 (by simp only [hpS, eq_self, implies_true, f2, f4, f9, f92]) (fun R3 hacc3 hn3 => ?_)
       have f93 := hn3 b9 f92
       simp -dsimp (maxDischargeDepth := 9) only [go_sem, zA, zB, zC, zD, zE, zF, zG, gS, f2, f4, f9, f93]
       refine newV_hp (fun b118 v118 f118 w118 => ?_)
       simp only [off_cons, off_nil] at f118
       simp -dsimp (maxDischargeDepth := 9) only [go_sem, zA, zB, zC, zD, zE, zF, zG, gS, f2, f4, f9, f93, f118]
       refine AccN.appTo (pre := [pcT x.types t, pcC x.ctors c]) (p := pcP x.preds p) (post := []) hacc3 (by simp only [hpS, eq_self, implies_true, f2, f4, f9, f93, f118]) (by simp only [hpS, eq_self, implies_true, f4]) (by simp only [List.length_map, List.length_cons, List.length_nil]; omega) (fun p4 R4 hacc4 hn4 => ?_)
       have f94 := hn4 b9 (by simp only [hpS, eq_self, implies_true, f2, f4, f9, f93, f118]) f93
       have f1184 := hn4 b118 (by simp only [hpS, eq_self, implies_true, f2, f4, f9, f93, f118]) f118.2.2.2.2.2.2
       have hacc4 : AccN H [b2, b4] (Ix.ps ⟨x.types, x.ctors, x.preds ++ [prOf l it]⟩ t c p4) R4 := by
        simp only [Ix.ps, pcP, List.map_append, List.map_cons, List.map_nil, Pr.d, Pr.cs, prOf, ← hm, ← hc]; exact hacc4
       have hone4 := AccN.one (pre := [pcT x.types t, pcC x.ctors c]) hacc4
       simp -dsimp (maxDischargeDepth := 9) only [go_sem, zA, zB, zC, zD, zE, zF, zG, gS, f2, f4, f9, f118, hone4, hw]
       refine roundQ_next ⟨k + 1, ⟨x.types, x.ctors, x.preds ++ [prOf l it]⟩, t, c, p4, R4⟩ _ ⟨rfl, hacc4, g1', hrun, by simp only [List.length_append, List.length_cons, List.length_nil]; omega⟩ (by simp only; omega) (by simp -dsimp (maxDischargeDepth := 9) only [go_sem, zA, zB, zC, zD, zE, zF, zG, gS]) (leH_hp (by simp only [hpS, eq_self, implies_true, f2, f4, f9, f94, f118, f1184]) (by simp only [hpS, eq_self, implies_true, f2, f4, f9, f94, f118, f1184]))
    ·have e2 : it.kind ≠ 2 := of_decide_eq_false g3
     rw [rstep, if_neg e1, if_neg e2] at hrun
     simp -dsimp (maxDischargeDepth := 9) only [go_sem, zA, zB, zC, zD, zE, zF, zG, gS, f2, f4, f6, g3, hw]
     exact roundQ_next ⟨k + 1, x, t, c, p, R⟩ _ ⟨rfl, hacc, g1', hrun, by simp only; omega⟩ (by simp only; omega) (by simp -dsimp (maxDischargeDepth := 9) only [go_sem, zA, zB, zC, zD, zE, zF, zG, gS]) (leH_hp (by simp only [hpS, eq_self, implies_true, f2, f4, f6]) (by simp only [hpS, eq_self, implies_true, f2, f4, f6]))
 ·have hfin : rresolve l = some x := by
   rw [drop_end (by have := of_decide_eq_false g1; omega)] at hrun
   rw [← hrun]; rfl
  rw [hfin] at hK
  have hone := fun s => AccN.allD (pre := []) hacc (t := s)
  simp -dsimp (maxDischargeDepth := 9) only [go_sem, zA, zB, zC, zD, zE, zF, zG, gS, g1, f2, f4, hone]
  refine retW_tup [true, true] ?_
  simp -dsimp (maxDischargeDepth := 9) only [go_sem, zA, zB, zC, zD, zE, zF, zG, gS, f2, f4]
  refine AccN.deep (pre := []) (p := pcT x.types t) (post := [pcC x.ctors c, pcP x.preds p]) hacc (by simp only [hpS, eq_self, implies_true, f2, f4]) (fun R1 hacc1 hn1 => ?_)
  simp -dsimp (maxDischargeDepth := 9) only [go_sem, zA, zB, zC, zD, zE, zF, zG, gS, f2, f4]
  refine AccN.deep (pre := []) (p := pcC x.ctors c) (post := [pcP x.preds p]) hacc1 (by simp only [hpS, eq_self, implies_true, f2, f4]) (fun R2 hacc2 hn2 => ?_)
  simp -dsimp (maxDischargeDepth := 9) only [go_sem, zA, zB, zC, zD, zE, zF, zG, gS, f2, f4]
  refine AccN.deep (pre := []) (p := pcP x.preds p) (post := []) hacc2 (by simp only [hpS, eq_self, implies_true, f2, f4]) (fun R3 hacc3 hn3 => ?_)
  simp -dsimp (maxDischargeDepth := 9) only [go_sem, zA, zB, zC, zD, zE, zF, zG, gS, f2, f4]
  exact retW_drop (G := H) (leH_hp02 hacc3.le (by simp only [hpS, eq_self, implies_true, f2, f4])) (retW_is hK)
end Go.Aug

/- The layer of names: what is read is not too long; a text's items and index. -/
namespace Go.Aug
open Nat renaming reduceBEq → zA, reduceLT → zB, reduceAdd → zC, reduceSub → zD, reduceMul → zE, reduceLeDiff → zF
open Int renaming reduceLE → zG
open Go.Proofs
set_option maxRecDepth 100000
set_option linter.unusedSimpArgs false
attribute [local irreducible] hid andK letA onSome onVar onArr arrOnly onInt onBool onFunc onTup idxA ldV ldD addO appTo fillL slA srcK nilQ retW gif sgd sguard svc sops sdops sagain aopO aLoad aStore aBin aUn aConv aLen aIndexAddr aIndex aIndexAddrS aIndexS aSlice aAppend aBuild aBuildSlice aMakeSlice aField aFieldOf aCallOp deepK deepL frzM putE newK newV growV ACall roundQ thenQ inBlockQ sret cnd szs nilC onMap onRow aLookup aMapUpdate aMakeMap
attribute [local go_sem] Int.natCast_zero
theorem rargs_all {α : Type} {P : α → Prop} {p : RdS → α × RdS} {l : List Tok} (hp : ∀ s, P (p s).1) : ∀ (k : Nat) (xs : List α) (s : RdS), (∀ x ∈ xs, P x) → ∀ x ∈ (rargs p l k xs s).1, P x
 | 0, xs, s, h => h
 | k + 1, xs, s, h => by
  simp only [rargs]
  repeat' split
  ·refine rargs_all hp k _ _ fun x hx => ?_
   rcases List.mem_append.1 hx with hx | hx
   ·exact h x hx
   ·rw [List.mem_singleton.1 hx]; exact hp _
  ·exact h
  ·exact h
theorem rargs_length {α : Type} {p : RdS → α × RdS} {l : List Tok} : ∀ (k : Nat) (xs : List α) (s : RdS), (rargs p l k xs s).1.length ≤ xs.length + k
 | 0, xs, s => Nat.le_refl _
 | k + 1, xs, s => by
  simp only [rargs]
  repeat' split
  ·have := rargs_length (p := p) (l := l) k (xs ++ [(p (rmore l xs.length s).2).1]) (p (rmore l xs.length s).2).2
   simp only [List.length_append, List.length_cons, List.length_nil] at this; omega
  ·simp only; omega
  ·simp only; omega
theorem Tm.smalls_of : ∀ {ts : List Tm}, (∀ t ∈ ts, t.small) → Tm.smalls ts
 | [], _ => trivial
 | _ :: _, h => ⟨h _ (.head _), Tm.smalls_of fun t ht => h t (.tail _ ht)⟩
theorem Ty.smalls_of : ∀ {ts : List Ty}, (∀ t ∈ ts, t.small) → Ty.smalls ts
 | [], _ => trivial
 | _ :: _, h => ⟨h _ (.head _), Ty.smalls_of fun t ht => h t (.tail _ ht)⟩
theorem Gl.smalls_of : ∀ {ts : List Gl}, (∀ t ∈ ts, t.small) → Gl.smalls ts
 | [], _ => trivial
 | _ :: _, h => ⟨h _ (.head _), Gl.smalls_of fun t ht => h t (.tail _ ht)⟩
theorem Tm.small_leaf (k : Int) (n : ByteArray) (i : Int) : (Tm.mk k n i []).small := by simp [Tm.small, Tm.smalls]
theorem Ty.small_leaf (v : Bool) (n : ByteArray) : (Ty.mk v n []).small := by simp [Ty.small, Ty.smalls]
theorem rterm_small {l : List Tok} : ∀ (f n : Nat) (s : RdS), (rterm f l n s).1.small
 | 0, _, _ => Tm.small_leaf _ _ _
 | f + 1, n, s => by
  have hrow : ∀ s, (Tm.mk 3 (rword l 1 (rnest l n s)).1 0 (rargs (rterm f l (n + 1)) l 10 [] (rword l 1 (rnest l n s)).2).1).small := fun s => by
   refine ⟨?_, Tm.smalls_of (rargs_all (fun s => rterm_small f (n + 1) s) 10 [] _ (by simp))⟩
   have := rargs_length (p := rterm f l (n + 1)) (l := l) 10 [] (rword l 1 (rnest l n s)).2
   simp only [List.length_nil] at this; omega
  simp only [rterm]
  split
  ·split
   ·exact Tm.small_leaf _ _ _
   ·split
    ·exact Tm.small_leaf _ _ _
    ·exact hrow s
  ·exact hrow s
theorem rtype_small {l : List Tok} : ∀ (f n : Nat) (s : RdS), (rtype f l n s).1.small
 | 0, _, _ => Ty.small_leaf _ _
 | f + 1, n, s => by
  have hrow : ∀ nm s, (Ty.mk false nm (rargs (rtype f l (n + 1)) l 10 [] s).1).small := fun nm s => by
   refine ⟨?_, Ty.smalls_of (rargs_all (fun s => rtype_small f (n + 1) s) 10 [] _ (by simp))⟩
   have := rargs_length (p := rtype f l (n + 1)) (l := l) 10 [] s
   simp only [List.length_nil] at this; omega
  simp only [rtype]
  repeat' split
  all_goals first
   | exact Ty.small_leaf _ _
   | exact hrow _ _
theorem Tm.small_none : Tm.none.small := Tm.small_leaf _ _ _
theorem rands_all {P : Gl → Prop} {p : RdS → Gl × RdS} {l : List Tok} (hp : ∀ s, P (p s).1) : ∀ (k : Nat) (gs : List Gl) (s : RdS), (∀ x ∈ gs, P x) → ∀ x ∈ (rands p l k gs s).1, P x
 | 0, gs, s, h => h
 | k + 1, gs, s, h => by
  simp only [rands]
  split
  ·refine rands_all hp k _ _ fun x hx => ?_
   rcases List.mem_append.1 hx with hx | hx
   ·exact h x hx
   ·rw [List.mem_singleton.1 hx]; exact hp _
  ·exact h
theorem rands_length {p : RdS → Gl × RdS} {l : List Tok} : ∀ (k : Nat) (gs : List Gl) (s : RdS), (rands p l k gs s).1.length ≤ gs.length + k
 | 0, gs, s => Nat.le_refl _
 | k + 1, gs, s => by
  simp only [rands]
  split
  ·have := rands_length (p := p) (l := l) k (gs ++ [(p (rgot l kComma s).2).1]) (p (rgot l kComma s).2).2
   simp only [List.length_append, List.length_cons, List.length_nil] at this; omega
  ·simp only; omega
theorem Gl.small_none (k : Int) : (Gl.mk k .none .none ⟨#[]⟩ [] []).small := by
 simp [Gl.small, Gl.smalls, Tm.smalls, Tm.small_none]
theorem Gl.small_row (k : Int) {gs : List Gl} (h : ∀ g ∈ gs, g.small) (hl : gs.length ≤ 32768) : (Gl.mk k .none .none ⟨#[]⟩ [] gs).small := by
 simp only [Gl.small, Tm.smalls, List.length_nil]
 exact ⟨Tm.small_none, Tm.small_none, by omega, trivial, hl, Gl.smalls_of h⟩
theorem headD_all {P : Gl → Prop} {gs : List Gl} (h : ∀ g ∈ gs, P g) (hd : P default) : P (gs.headD default) := by
 cases gs with
 | nil => exact hd
 | cons g gs => exact h g (.head _)
theorem rway_small {p : RdS → Gl × RdS} {l : List Tok} (hl : l.length ≤ 16384) (hp : ∀ s, (p s).1.small) (s : RdS) : (rway p l s).1.small := by
 simp only [rway, allOf]
 have h1 := rands_all (l := l) hp l.length [(p s).1] (p s).2 (by simp [hp])
 have h2 := rands_length (p := p) (l := l) l.length [(p s).1] (p s).2
 simp only [List.length_cons, List.length_nil] at h2
 split
 ·exact Gl.small_row 5 h1 (by omega)
 ·exact headD_all h1 (Gl.small_none _)
theorem rors_all {p : RdS → Gl × RdS} {l : List Tok} (hl : l.length ≤ 16384) (hp : ∀ s, (p s).1.small) : ∀ (k : Nat) (os : List Gl) (s : RdS), (∀ x ∈ os, x.small) → ∀ x ∈ (rors p l k os s).1, x.small
 | 0, os, s, h => h
 | k + 1, os, s, h => by
  have h2 : ∀ x ∈ os ++ [(rway p l s).1], x.small := fun x hx => by
   rcases List.mem_append.1 hx with hx | hx
   ·exact h x hx
   ·rw [List.mem_singleton.1 hx]; exact rway_small hl hp s
  simp only [rors]
  repeat' split
  ·exact rors_all hl hp k _ _ h2
  ·exact h2
  ·exact h
theorem rors_length {p : RdS → Gl × RdS} {l : List Tok} : ∀ (k : Nat) (os : List Gl) (s : RdS), (rors p l k os s).1.length ≤ os.length + k
 | 0, os, s => Nat.le_refl _
 | k + 1, os, s => by
  simp only [rors]
  repeat' split
  ·have := rors_length (p := p) (l := l) k (os ++ [(rway p l s).1]) (rgot l kSemi (rway p l s).2).2
   simp only [List.length_append, List.length_cons, List.length_nil] at this; omega
  ·simp only [List.length_append, List.length_cons, List.length_nil]; omega
  ·simp only; omega
theorem rgoalW_small {p : RdS → Gl × RdS} {l : List Tok} (hl : l.length ≤ 16384) (hp : ∀ s, (p s).1.small) (s : RdS) : (rgoalW p l s).1.small := by
 simp only [rgoalW, anyOf]
 have h1 := rors_all hl hp (l.length + 1) [] s (by simp)
 have h2 := rors_length (p := p) (l := l) (l.length + 1) [] s
 simp only [List.length_nil] at h2
 split
 ·exact headD_all h1 (Gl.small_none _)
 ·exact Gl.small_row 6 h1 (by omega)
theorem Tm.small_args {t : Tm} (h : t.small) : t.args.length ≤ 32768 ∧ Tm.smalls t.args := by
 cases t; exact h
theorem rprim_small {l : List Tok} (hl : l.length ≤ 16384) : ∀ (f n : Nat) (s : RdS), (rprim f l n s).1.small
 | 0, _, _ => Gl.small_none _
 | f + 1, n, s => by
  have ih := fun s => rprim_small hl f (n + 1) s
  simp only [rprim]
  repeat' split
  ·exact Gl.small_none _
  ·exact Gl.small_none _
  ·exact Gl.small_row 7 (by simp [ih]) (by simp)
  ·simp only [Gl.small, Tm.smalls, Gl.smalls, List.length_nil]
   exact ⟨rterm_small _ _ _, Tm.small_none, by omega, trivial, by omega, trivial⟩
  ·simp only [rtry, Gl.small, Tm.smalls, Gl.smalls, List.length_nil, List.length_cons]
   exact ⟨Tm.small_none, Tm.small_none, by omega, trivial, by omega, ih _, ih _, trivial⟩
  ·exact rgoalW_small hl ih _
  ·simp only [rcall]
   split
   ·simp only [Gl.small, Tm.smalls, Gl.smalls, List.length_nil]
    exact ⟨rterm_small _ _ _, rterm_small _ _ _, by omega, trivial, by omega, trivial⟩
   ·have := Tm.small_args (rterm_small (l := l) f (n + 1) (rnest l n s))
    simp only [Gl.small, Gl.smalls, List.length_nil]
    exact ⟨Tm.small_none, Tm.small_none, this.1, this.2, by omega, trivial⟩
theorem rctor_small {l : List Tok} (s : RdS) : (rctor l s).1.args.length ≤ 32768 ∧ Ty.smalls (rctor l s).1.args := by
 refine ⟨?_, Ty.smalls_of (rargs_all (fun s => rtype_small 66 1 s) 10 [] _ (by simp))⟩
 have := rargs_length (p := rtype 66 l 1) (l := l) 10 [] (rword l 1 s).2
 simp only [List.length_nil] at this; simp only [rctor]; omega
theorem rbars_all {P : Ct → Prop} {l : List Tok} (hp : ∀ s, P (rctor l s).1) : ∀ (k : Nat) (cs : List Ct) (s : RdS), (∀ x ∈ cs, P x) → ∀ x ∈ (rbars l k cs s).1, P x
 | 0, cs, s, h => h
 | k + 1, cs, s, h => by
  simp only [rbars]
  split
  ·refine rbars_all hp k _ _ fun x hx => ?_
   rcases List.mem_append.1 hx with hx | hx
   ·exact h x hx
   ·rw [List.mem_singleton.1 hx]; exact hp _
  ·exact h
theorem rbars_length {l : List Tok} : ∀ (k : Nat) (cs : List Ct) (s : RdS), (rbars l k cs s).1.length ≤ cs.length + k
 | 0, cs, s => Nat.le_refl _
 | k + 1, cs, s => by
  simp only [rbars]
  split
  ·have := rbars_length (l := l) k (cs ++ [(rctor l (rgot l kBar s).2).1]) (rctor l (rgot l kBar s).2).2
   simp only [List.length_append, List.length_cons, List.length_nil] at this; omega
  ·simp only; omega
theorem ritem_small {l : List Tok} (hl : l.length ≤ 16384) (s : RdS) : (ritem l s).1.small := by
 have z : (default : It).small := ⟨by decide, by decide, by simp [default, instInhabitedIt], ⟨by decide, trivial⟩, by decide, ⟨by decide, trivial⟩, Gl.small_none 0⟩
 have rl : ∀ {α : Type} (p : RdS → α × RdS) (s : RdS), (rargs p l 10 [] s).1.length ≤ 32768 := fun p s => by
  have := rargs_length (p := p) (l := l) 10 [] s
  simp only [List.length_nil] at this; omega
 unfold ritem
 repeat' split
 ·simp only [ritType]
  refine ⟨rl _ _, ?_, ?_, z.types, z.ways, z.args, z.body⟩
  ·exact Nat.le_trans (rbars_length _ _ _) (by simp only [List.length_cons, List.length_nil]; omega)
  ·exact rbars_all (fun s => rctor_small s) _ _ _ (by simp only [List.mem_singleton]; rintro c rfl; exact rctor_small _)
 ·simp only [ritPred]
  exact ⟨z.vars, z.nct, z.ctors, ⟨rl _ _, Ty.smalls_of (rargs_all (fun s => rtype_small 66 1 s) 10 [] _ (by simp))⟩, z.ways, z.args, z.body⟩
 ·simp only [ritMode]
  exact ⟨z.vars, z.nct, z.ctors, z.types, rl _ _, z.args, z.body⟩
 ·simp only [ritClause]
  have ha := Tm.smalls_of (rargs_all (l := l) (fun s => rterm_small (l := l) 66 1 s) 10 [] (rword l 1 s).2 (by simp))
  split
  ·exact ⟨z.vars, z.nct, z.ctors, z.types, z.ways, ⟨rl _ _, ha⟩, rgoalW_small hl (fun s => rprim_small hl 66 1 s) _⟩
  ·exact ⟨z.vars, z.nct, z.ctors, z.types, z.ways, ⟨rl _ _, ha⟩, Gl.small_none 1⟩
theorem ritems_all {P : It → Prop} {l : List Tok} (hp : ∀ s, P (ritem l s).1) : ∀ (k : Nat) (is : List It) (s : RdS), (∀ x ∈ is, P x) → ∀ x ∈ (ritems l k is s).1, P x
 | 0, is, s, h => h
 | k + 1, is, s, h => by
  simp only [ritems]
  repeat' split
  ·exact h
  ·exact h
  ·refine ritems_all hp k _ _ fun x hx => ?_
   rcases List.mem_append.1 hx with hx | hx
   ·exact h x hx
   ·rw [List.mem_singleton.1 hx]; exact hp _
theorem ritems_length {l : List Tok} : ∀ (k : Nat) (is : List It) (s : RdS), is.length ≤ 512 → (ritems l k is s).1.length ≤ 512
 | 0, is, s, h => h
 | k + 1, is, s, h => by
  simp only [ritems]
  repeat' split
  ·exact h
  ·exact h
  ·exact ritems_length k _ _ (by simp only [List.length_append, List.length_cons, List.length_nil]; omega)
/-- The items of a text; the error's number. -/
def rtext (s : ByteArray) : List It × Int := rsource (rlex s).1 (rlex s).2
theorem rtext_srcs (s : ByteArray) : Srcs (rtext s).1 := by
 unfold rtext rsource
 simp only
 split
 ·exact ⟨by simp, by simp⟩
 ·exact ⟨Nat.le_trans (ritems_length _ _ _ (by simp)) (by omega), ritems_all (fun s => ritem_small (rlex_len _) s) _ _ _ (by simp)⟩
theorem rtext_len (s : ByteArray) : (rtext s).1.length ≤ 512 := by
 unfold rtext rsource
 simp only
 split
 ·simp
 ·exact ritems_length _ _ _ (by simp)
def rnamed (s : ByteArray) : List It × Option Ix := if (rtext s).2 ≠ 0 then ([], none) else ((rtext s).1, rresolve (rtext s).1)
theorem named_ok {eb : EbG} (H : Heap) (s : ByteArray) (K : A → Heap → Prop) (hK : K (.tup [.d (.slice ((rnamed s).1.map It.d)), .d (ixD (rnamed s).2), .d (.bool (rnamed s).2.isSome)]) H) :
  ACall Tryd.prog (seatV eb) 14 [.d (.str s)] H K := by
 refine ACall.hp_start ?_
 refine ACall.by mixed fn14 (by simp) ?_
 conv in s14 => cbv
 refine svc_start ?_
 simp -dsimp (maxDischargeDepth := 9) only [go_sem, zA, zB, zC, zD, zE, zF, zG, gS]
 refine newK_hp (fun b3 f3 => ?_)
 simp only [off_cons, off_nil] at f3
 simp -dsimp (maxDischargeDepth := 9) only [go_sem, zA, zB, zC, zD, zE, zF, zG, gS, f3]
 refine source_ok _ s _ ?_
 have hsrc := rtext_srcs s
 rw [show rsource (rlex s).1 (rlex s).2 = rtext s from rfl]
 unfold rnamed at hK
 generalize rtext s = x at hsrc hK ⊢
 obtain ⟨l, e⟩ := x
 simp -dsimp (maxDischargeDepth := 9) only [go_sem, zA, zB, zC, zD, zE, zF, zG, gS, f3]
 refine gif_split (fun g1 => ?_) (fun g1 => ?_)
 ·have e0 : e ≠ 0 := by simpa using g1
  rw [if_pos e0] at hK
  simp -dsimp (maxDischargeDepth := 9) only [go_sem, zA, zB, zC, zD, zE, zF, zG, gS, g1, f3]
  refine retW_tup [true, true, true] ?_
  simp -dsimp (maxDischargeDepth := 9) only [go_sem, zA, zB, zC, zD, zE, zF, zG, gS, f3]
  exact retW_drop (G := H) (leH_hp0 (by simp only [hpS, eq_self, implies_true, f3])) (retW_is hK)
 ·have e0 : ¬ e ≠ 0 := by simpa using g1
  rw [if_neg e0] at hK
  simp -dsimp (maxDischargeDepth := 9) only [go_sem, zA, zB, zC, zD, zE, zF, zG, gS, g1, f3]
  refine resolve04_ok l hsrc _ _ ?_
  simp -dsimp (maxDischargeDepth := 9) only [go_sem, zA, zB, zC, zD, zE, zF, zG, gS, f3, ixD, Ix.d, Ix.cs]
  refine newK_hp (fun b7 f7 => ?_)
  simp only [off_cons, off_nil] at f7
  simp -dsimp (maxDischargeDepth := 9) only [go_sem, zA, zB, zC, zD, zE, zF, zG, gS, f3, f7]
  exact retW_drop (G := H) (leH_hp0 (by simp only [hpS, eq_self, implies_true, f3, f7])) (retW_is hK)
end Go.Aug
