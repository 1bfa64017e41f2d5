/- The contracts of names.Resolve and of the Names laws; conditions stand in each contract. -/
import Derived.Test.YtejfagblpbmokaaDoorSameOne
import Derived.Test.YtejfagblpbmokaaDoorAugTen
set_option linter.all false
set_option linter.unusedVariables false
set_option linter.unusedSimpArgs false
set_option linter.unusedSectionVars false

/- The program's names: the table; what types, terms and goals name. -/
namespace Go.Aug
open Nat renaming reduceBEq → zA, reduceLT → zB, reduceAdd → zC, reduceSub → zD, reduceMul → zE, reduceLeDiff → zF
open Int renaming reduceLE → zG
open Go.Proofs
set_option maxRecDepth 100000
set_option linter.unusedSimpArgs false
attribute [local irreducible] hid andK letA onSome onVar onArr arrOnly onInt onBool onFunc onTup idxA ldV ldD addO appTo fillL slA srcK nilQ retW gif sgd sguard svc sops sdops sagain aopO aLoad aStore aBin aUn aConv aLen aIndexAddr aIndex aIndexAddrS aIndexS aSlice aAppend aBuild aBuildSlice aMakeSlice aField aFieldOf aCallOp deepK deepL frzM putE newK newV growV ACall roundQ thenQ inBlockQ sret cnd szs nilC onMap onRow aLookup aMapUpdate aMakeMap
attribute [local go_sem] Int.natCast_zero
/-- The table's variable: rows of types, constructors, predicates; maps; is all well so far? -/
abbrev tvar (t c p : A) (bt bc bp : Nat) (g : Bool) : AObj := .var [t, c, p, .mp bt, .mp bc, .mp bp, .d (.bool g)]
theorem need53_ok {eb : EbG} (H : Heap) (r : Nat) (t c p : A) (bt bc bp : Nat) (g ok : Bool) (h : H r = some (tvar t c p bt bc bp g)) (K : A → Heap → Prop) (hK : K (.tup []) (upd H r (tvar t c p bt bc bp (g && ok)))) :
  ACall Tryd.prog (seatV eb) 53 [.ref r 0, .d (.bool ok)] H K := by
 refine ACall.hp_in h ?_
 refine ACall.by mixed fn53 (by simp) ?_
 conv in s53 => cbv
 refine svc_start ?_
 simp -dsimp (maxDischargeDepth := 9) only [go_sem, zA, zB, zC, zD, zE, zF, zG, gS]
 cases ok with
 | true =>
  simp -dsimp (maxDischargeDepth := 9) only [go_sem, zA, zB, zC, zD, zE, zF, zG, gS]
  rw [Bool.and_true] at hK
  have e : upd H r (tvar t c p bt bc bp g) = hp H [(r, tvar t c p bt bc bp g)] := rfl
  rw [e] at hK
  exact retW_is hK
 | false =>
  simp -dsimp (maxDischargeDepth := 9) only [go_sem, zA, zB, zC, zD, zE, zF, zG, gS]
  rw [Bool.and_false] at hK
  exact retW_is hK
/-- Keys to numbers. -/
def encK (m : List (Ky × Nat)) : List (D × D) := m.map fun p => (p.1.d, .int .i64 p.2)
def kfind : List (Ky × Nat) → Ky → Option Nat
 | [], _ => none
 | (a, v) :: m, q => if q = a then some v else kfind m q
def kput : List (Ky × Nat) → Ky → Nat → List (Ky × Nat)
 | [], q, v => [(q, v)]
 | (a, w) :: m, q, v => if q = a then (a, v) :: m else (a, w) :: kput m q v
theorem keq_key (a b : Ky) : keq a.d b.d = decide (a = b) := by
 obtain ⟨an, ax⟩ := a
 obtain ⟨bn, bx⟩ := b
 simp only [Ky.d, Ky.cs, keq, leqL, leq, Bool.and_true, Ky.mk.injEq, Bool.decide_and]
theorem mget_encK (q : Ky) : ∀ m : List (Ky × Nat), mget (encK m) q.d = (kfind m q).map fun (v : Nat) => D.int .i64 (v : Int)
 | [] => rfl
 | (a, v) :: m => by
  simp only [encK, List.map_cons, mget, keq_key, kfind, decide_eq_true_eq]
  split
  ·rfl
  ·exact mget_encK q m
theorem mput_encK (q : Ky) (v : Nat) : ∀ m : List (Ky × Nat), mput (encK m) q.d (.int .i64 v) = encK (kput m q v)
 | [] => rfl
 | (a, w) :: m => by
  simp only [encK, List.map_cons, mput, keq_key, kput, decide_eq_true_eq]
  split
  ·rfl
  ·rw [List.map_cons]; congr 1; exact mput_encK q v m
theorem index143_ok {eb : EbG} (l : List ByteArray) (hl : l.length ≤ 1048576) (s : ByteArray) (H : Heap) (K : A → Heap → Prop) (hK : ∀ i : Int, decide (0 ≤ i) = l.any (fun x => decide (x = s)) → K (.d (.int .i64 i)) H) :
  ACall Tryd.prog (seatV eb) 143 [.d (.slice (l.map .str)), .d (.str s)] H K := by
 refine ACall.by mixed fn143 (by simp) ?_
 conv in s143 => cbv
 refine svc_start ?_
 simp -dsimp (maxDischargeDepth := 9) only [go_sem, zA, zB, zC, zD, zE, zF, zG, gS]
 refine svc_loop (X := Nat) (fun y => [(0, .d (.slice (l.map .str))), (1, .d (.str s)), (7, .d (.int .i64 l.length)), (8, .d (.int .i64 y))])
  (fun y G => G = H ∧ y ≤ l.length ∧ l.any (fun x => decide (x = s)) = (l.drop y).any (fun x => decide (x = s))) (fun y => l.length - y) 0 H ⟨rfl, Nat.zero_le _, rfl⟩ (by simp -dsimp (maxDischargeDepth := 9) only [go_sem, zA, zB, zC, zD, zE, zF, zG, gS]) (fun _ _ h => h) ?_
 rintro j G ⟨hG, hj, hs⟩
 subst hG
 simp -dsimp (maxDischargeDepth := 9) only [go_sem, zA, zB, zC, zD, zE, zF, zG, gS]
 refine gif_split (fun q1 => ?_) (fun q1 => ?_)
 ·have q1' : j < l.length := by have := of_decide_eq_true q1; omega
  obtain ⟨x, hx⟩ := list_at q1'
  have hw := wrapN (k := j) (by omega)
  rw [drop_at hx, List.any_cons] at hs
  simp -dsimp (maxDischargeDepth := 9) only [go_sem, zA, zB, zC, zD, zE, zF, zG, gS, q1, hx]
  refine gif_split (fun q2 => ?_) (fun q2 => ?_)
  ·have e : x = s := (of_decide_eq_true q2).symm
   simp -dsimp (maxDischargeDepth := 9) only [go_sem, zA, zB, zC, zD, zE, zF, zG, gS, q2]
   exact retW_is (hK j (by rw [hs, e]; simp))
  ·have e : decide (x = s) = false := by have := of_decide_eq_false q2; simp; exact fun h => this h.symm
   rw [e, Bool.false_or] at hs
   simp -dsimp (maxDischargeDepth := 9) only [go_sem, zA, zB, zC, zD, zE, zF, zG, gS, q2, hw]
   refine roundQ_next (j + 1) G ⟨rfl, q1', hs⟩ (by omega) (by simp -dsimp (maxDischargeDepth := 9) only [go_sem, zA, zB, zC, zD, zE, zF, zG, gS]) (fun _ _ h => h)
 ·rw [drop_end (by have := of_decide_eq_false q1; omega), List.any_nil] at hs
  simp -dsimp (maxDischargeDepth := 9) only [go_sem, zA, zB, zC, zD, zE, zF, zG, gS, q1]
  exact retW_is (hK (-1) (by rw [hs]; rfl))
theorem contains135_ok {eb : EbG} (l : List ByteArray) (hl : l.length ≤ 1048576) (s : ByteArray) (H : Heap) (K : A → Heap → Prop) (hK : K (.d (.bool (l.any (fun x => decide (x = s))))) H) :
  ACall Tryd.prog (seatV eb) 135 [.d (.slice (l.map .str)), .d (.str s)] H K := by
 refine ACall.by mixed fn135 (by simp) ?_
 conv in s135 => cbv
 refine svc_start ?_
 simp -dsimp (maxDischargeDepth := 9) only [go_sem, zA, zB, zC, zD, zE, zF, zG, gS]
 refine index143_ok l hl s _ _ (fun i hi => ?_)
 rw [← hi] at hK
 simp -dsimp (maxDischargeDepth := 9) only [go_sem, zA, zB, zC, zD, zE, zF, zG, gS]
 exact retW_is hK
mutual
/-- Does a type name what is declared? -/
def pTy (mt : List (ByteArray × Nat)) (vars : List ByteArray) (told : Bool) : Ty → Bool
 | .mk v n ts => if v = true then !told || vars.any (fun x => decide (x = n)) else if n = kInt then decide ((ts.length : Int) = 0) else (match nfind mt n with | some k => decide ((k : Int) = (ts.length : Int)) | none => false) && pTys mt vars told ts
def pTys (mt : List (ByteArray × Nat)) (vars : List ByteArray) (told : Bool) : List Ty → Bool
 | [] => true
 | t :: ts => pTy mt vars told t && pTys mt vars told ts
end
set_option maxHeartbeats 4000000 in
theorem typ97_ok {eb : EbG} (mt : List (ByteArray × Nat)) (vars : List ByteArray) (hv : vars.length ≤ 1048576) (told : Bool) : ∀ (m : Nat) (t : Ty), t.nodes ≤ m → t.small → ∀ (H : Heap) (r : Nat) (a c p : A) (bt bc bp : Nat) (g : Bool) (_ : H r = some (tvar a c p bt bc bp g)) (_ : H bt = some (.map (.one .str) (enc mt))) (_ : eqn bt r = false) (K : A → Heap → Prop)
  (_ : K (.tup []) (upd H r (tvar a c p bt bc bp (g && pTy mt vars told t)))), ACall Tryd.prog (seatV eb) 97 [.ref r 0, .d t.d, .d (.slice (vars.map .str)), .d (.bool told)] H K
 | 0, .mk v n ts, hm, _, _, _, _, _, _, _, _, _, _, _, _, _, _, _ => by simp only [Ty.nodes] at hm; omega
 | m + 1, .mk v n ts, hm, hs, H, r, a, c, p, bt, bc, bp, g, h, hmt, hne, K, hK => by
  simp only [Ty.nodes] at hm
  simp only [pTy] at hK
  refine ACall.hp_in h ?_
  refine ACall.by mixed fn97 (by simp) ?_
  conv in s97 => cbv
  refine svc_start ?_
  simp -dsimp (maxDischargeDepth := 9) only [go_sem, zA, zB, zC, zD, zE, zF, zG, gS, Ty.d, Ty.cs, Ty.ds_map]
  refine newK_hp (fun b5 f5 => ?_)
  simp only [off_cons, off_nil] at f5
  have h5 := f5.2.2
  have fin : ∀ g' l, subL (hp H l) [(r, tvar a c p bt bc bp g')] → offR H [(r, tvar a c p bt bc bp g')] l → K (.tup []) (upd H r (tvar a c p bt bc bp g')) → retW (seatV eb) (.tup []) (hp H l) K := fun g' l h1 h2 hk =>
   retW_drop (G := hp H [(r, tvar a c p bt bc bp g')]) (leH_hp h1 h2) (retW_is hk)
  cases v with
  | true =>
   rw [if_pos rfl] at hK
   cases told with
   | false =>
    simp -dsimp (maxDischargeDepth := 9) only [go_sem, zA, zB, zC, zD, zE, zF, zG, gS, f5]
    refine need53_ok _ r a c p bt bc bp g true (by simp only [hpS, eq_self, implies_true, f5]) _ ?_
    simp -dsimp (maxDischargeDepth := 9) only [go_sem, zA, zB, zC, zD, zE, zF, zG, gS, f5]
    simp only [Bool.not_false, Bool.true_or, Bool.and_true] at hK
    exact fin g _ (by simp only [hpS, eq_self, implies_true, f5]) (by simp only [hpS, eq_self, implies_true, f5]) hK
   | true =>
    simp -dsimp (maxDischargeDepth := 9) only [go_sem, zA, zB, zC, zD, zE, zF, zG, gS, f5]
    refine contains135_ok vars hv n _ _ ?_
    simp -dsimp (maxDischargeDepth := 9) only [go_sem, zA, zB, zC, zD, zE, zF, zG, gS, f5]
    refine need53_ok _ r a c p bt bc bp g _ (by simp only [hpS, eq_self, implies_true, f5]) _ ?_
    simp -dsimp (maxDischargeDepth := 9) only [go_sem, zA, zB, zC, zD, zE, zF, zG, gS, f5]
    simp only [Bool.not_true, Bool.false_or] at hK
    exact fin _ _ (by simp only [hpS, eq_self, implies_true, f5]) (by simp only [hpS, eq_self, implies_true, f5]) hK
  | false =>
   rw [if_neg (by decide)] at hK
   simp -dsimp (maxDischargeDepth := 9) only [go_sem, zA, zB, zC, zD, zE, zF, zG, gS, f5]
   refine gif_split (fun g1 => ?_) (fun g1 => ?_)
   ·have e1 : n = kInt := of_decide_eq_true g1
    rw [if_pos e1] at hK
    simp -dsimp (maxDischargeDepth := 9) only [go_sem, zA, zB, zC, zD, zE, zF, zG, gS, g1, f5]
    refine need53_ok _ r a c p bt bc bp g _ (by simp only [hpS, eq_self, implies_true, f5]) _ ?_
    simp -dsimp (maxDischargeDepth := 9) only [go_sem, zA, zB, zC, zD, zE, zF, zG, gS, f5]
    exact fin _ _ (by simp only [hpS, eq_self, implies_true, f5]) (by simp only [hpS, eq_self, implies_true, f5]) hK
   ·have e1 : n ≠ kInt := of_decide_eq_false g1
    rw [if_neg e1] at hK
    have hbt : eqn bt r = false := hne
    have hb5 := eqn_some hmt h5
    simp -dsimp (maxDischargeDepth := 9) only [go_sem, zA, zB, zC, zD, zE, zF, zG, gS, g1, f5, hbt, hb5, hmt, mget_enc]
    have hl := hs.1
    cases hf : nfind mt n with
    | none =>
     simp only [hf, Bool.false_and, Bool.and_false] at hK
     simp -dsimp (maxDischargeDepth := 9) only [go_sem, zA, zB, zC, zD, zE, zF, zG, gS, f5, Option.map_none, Option.getD_none, Option.isSome_none]
     refine need53_ok _ r a c p bt bc bp g _ (by simp only [hpS, eq_self, implies_true, f5]) _ ?_
     simp -dsimp (maxDischargeDepth := 9) only [go_sem, zA, zB, zC, zD, zE, zF, zG, gS, f5]
     refine svc_loop (X := Nat × Bool) (fun y => [(0, .ref r 0), (2, .d (.slice (vars.map .str))), (3, .d (.bool told)), (54, .d (.slice (ts.map Ty.d))), (55, .d (.int .i64 ts.length)), (56, .d (.int .i64 y.1))])
      (fun y G => G = hp H [(r, tvar a c p bt bc bp y.2)] ∧ y.1 ≤ ts.length ∧ (y.2 && pTys mt vars told (ts.drop y.1)) = (false && pTys mt vars told ts)) (fun y => ts.length - y.1) (0, false) _ ⟨rfl, Nat.zero_le _, rfl⟩ (by simp -dsimp (maxDischargeDepth := 9) only [go_sem, zA, zB, zC, zD, zE, zF, zG, gS]) (leH_hp (by simp only [hpS, eq_self, implies_true, f5, Bool.and_true, Bool.and_false]) (by simp only [hpS, eq_self, implies_true, f5, Bool.and_true, Bool.and_false])) ?_
     rintro ⟨j, gj⟩ G ⟨hG, hj, hrun⟩
     simp only at hG hj hrun
     subst hG
     simp -dsimp (maxDischargeDepth := 9) only [go_sem, zA, zB, zC, zD, zE, zF, zG, gS]
     refine gif_split (fun q1 => ?_) (fun q1 => ?_)
     ·have q1' : j < ts.length := by have := of_decide_eq_true q1; omega
      obtain ⟨u, hx⟩ := list_at q1'
      have hw := wrapN (k := j) (by omega)
      have hu := Ty.nodess_mem (List.mem_of_getElem? hx)
      have hus := Ty.smalls_mem hs.2 u (List.mem_of_getElem? hx)
      have ih := fun H h1 h2 K => typ97_ok (eb := eb) mt vars hv told m u (by omega) hus H r a c p bt bc bp gj h1 h2 hne K
      rw [drop_at hx] at hrun
      simp only [pTys] at hrun
      obtain ⟨uv, un, us⟩ := u
      simp -dsimp (maxDischargeDepth := 9) only [go_sem, zA, zB, zC, zD, zE, zF, zG, gS, q1, hx, Ty.d, Ty.cs]
      refine newK_hp (fun b11 f11 => ?_)
      simp only [off_cons, off_nil] at f11
      simp -dsimp (maxDischargeDepth := 9) only [go_sem, zA, zB, zC, zD, zE, zF, zG, gS, f11]
      refine ih _ (by simp only [hpS, eq_self, implies_true, f11]) (by simp only [hpS, eq_self, implies_true, hbt, eqn_some hmt f11.2.2, hmt]) _ ?_
      simp -dsimp (maxDischargeDepth := 9) only [go_sem, zA, zB, zC, zD, zE, zF, zG, gS, f11, hw]
      refine roundQ_next (j + 1, gj && pTy mt vars told (.mk uv un us)) _ ⟨rfl, q1', by simp only; rw [← hrun, Bool.and_assoc]⟩ (by simp only; omega) (by simp -dsimp (maxDischargeDepth := 9) only [go_sem, zA, zB, zC, zD, zE, zF, zG, gS]) (leH_hp (by simp only [hpS, eq_self, implies_true, f11]) (by simp only [hpS, eq_self, implies_true, f11]))
     ·rw [drop_end (by have := of_decide_eq_false q1; omega)] at hrun
      simp only [pTys, Bool.and_true] at hrun
      simp -dsimp (maxDischargeDepth := 9) only [go_sem, zA, zB, zC, zD, zE, zF, zG, gS, q1]
      refine retW_is ?_
      have e : upd H r (tvar a c p bt bc bp gj) = hp H [(r, tvar a c p bt bc bp gj)] := rfl
      rw [← e, hrun]
      simpa using hK
    | some k =>
     simp only [hf] at hK
     simp -dsimp (maxDischargeDepth := 9) only [go_sem, zA, zB, zC, zD, zE, zF, zG, gS, f5, Option.map_some, Option.getD_some, Option.isSome_some]
     refine need53_ok _ r a c p bt bc bp g _ (by simp only [hpS, eq_self, implies_true, f5]) _ ?_
     simp -dsimp (maxDischargeDepth := 9) only [go_sem, zA, zB, zC, zD, zE, zF, zG, gS, f5]
     refine svc_loop (X := Nat × Bool) (fun y => [(0, .ref r 0), (2, .d (.slice (vars.map .str))), (3, .d (.bool told)), (54, .d (.slice (ts.map Ty.d))), (55, .d (.int .i64 ts.length)), (56, .d (.int .i64 y.1))])
      (fun y G => G = hp H [(r, tvar a c p bt bc bp y.2)] ∧ y.1 ≤ ts.length ∧ (y.2 && pTys mt vars told (ts.drop y.1)) = ((g && decide ((k : Int) = (ts.length : Int))) && pTys mt vars told ts)) (fun y => ts.length - y.1) (0, (g && decide ((k : Int) = (ts.length : Int)))) _ ⟨rfl, Nat.zero_le _, rfl⟩ (by simp -dsimp (maxDischargeDepth := 9) only [go_sem, zA, zB, zC, zD, zE, zF, zG, gS]) (leH_hp (by simp only [hpS, eq_self, implies_true, f5, Bool.and_true, Bool.and_false]) (by simp only [hpS, eq_self, implies_true, f5, Bool.and_true, Bool.and_false])) ?_
     rintro ⟨j, gj⟩ G ⟨hG, hj, hrun⟩
     simp only at hG hj hrun
     subst hG
     simp -dsimp (maxDischargeDepth := 9) only [go_sem, zA, zB, zC, zD, zE, zF, zG, gS]
     refine gif_split (fun q1 => ?_) (fun q1 => ?_)
     ·have q1' : j < ts.length := by have := of_decide_eq_true q1; omega
      obtain ⟨u, hx⟩ := list_at q1'
      have hw := wrapN (k := j) (by omega)
      have hu := Ty.nodess_mem (List.mem_of_getElem? hx)
      have hus := Ty.smalls_mem hs.2 u (List.mem_of_getElem? hx)
      have ih := fun H h1 h2 K => typ97_ok (eb := eb) mt vars hv told m u (by omega) hus H r a c p bt bc bp gj h1 h2 hne K
      rw [drop_at hx] at hrun
      simp only [pTys] at hrun
      obtain ⟨uv, un, us⟩ := u
      simp -dsimp (maxDischargeDepth := 9) only [go_sem, zA, zB, zC, zD, zE, zF, zG, gS, q1, hx, Ty.d, Ty.cs]
      refine newK_hp (fun b11 f11 => ?_)
      simp only [off_cons, off_nil] at f11
      simp -dsimp (maxDischargeDepth := 9) only [go_sem, zA, zB, zC, zD, zE, zF, zG, gS, f11]
      refine ih _ (by simp only [hpS, eq_self, implies_true, f11]) (by simp only [hpS, eq_self, implies_true, hbt, eqn_some hmt f11.2.2, hmt]) _ ?_
      simp -dsimp (maxDischargeDepth := 9) only [go_sem, zA, zB, zC, zD, zE, zF, zG, gS, f11, hw]
      refine roundQ_next (j + 1, gj && pTy mt vars told (.mk uv un us)) _ ⟨rfl, q1', by simp only; rw [← hrun, Bool.and_assoc]⟩ (by simp only; omega) (by simp -dsimp (maxDischargeDepth := 9) only [go_sem, zA, zB, zC, zD, zE, zF, zG, gS]) (leH_hp (by simp only [hpS, eq_self, implies_true, f11]) (by simp only [hpS, eq_self, implies_true, f11]))
     ·rw [drop_end (by have := of_decide_eq_false q1; omega)] at hrun
      simp only [pTys, Bool.and_true] at hrun
      simp -dsimp (maxDischargeDepth := 9) only [go_sem, zA, zB, zC, zD, zE, zF, zG, gS, q1]
      refine retW_is ?_
      have e : upd H r (tvar a c p bt bc bp gj) = hp H [(r, tvar a c p bt bc bp gj)] := rfl
      rw [← e, hrun]
      rw [Bool.and_assoc]; exact hK
end Go.Aug

/- The program's names: what terms and goals name. -/
namespace Go.Aug
open Nat renaming reduceBEq → zA, reduceLT → zB, reduceAdd → zC, reduceSub → zD, reduceMul → zE, reduceLeDiff → zF
open Int renaming reduceLE → zG
open Go.Proofs
set_option maxRecDepth 100000
set_option linter.unusedSimpArgs false
attribute [local irreducible] hid andK letA onSome onVar onArr arrOnly onInt onBool onFunc onTup idxA ldV ldD addO appTo fillL slA srcK nilQ retW gif sgd sguard svc sops sdops sagain aopO aLoad aStore aBin aUn aConv aLen aIndexAddr aIndex aIndexAddrS aIndexS aSlice aAppend aBuild aBuildSlice aMakeSlice aField aFieldOf aCallOp deepK deepL frzM putE newK newV growV ACall roundQ thenQ inBlockQ sret cnd szs nilC onMap onRow aLookup aMapUpdate aMakeMap
attribute [local go_sem] Int.natCast_zero
mutual
/-- Does a term name what is declared? -/
def pTm (mc : List (Ky × Nat)) : Tm → Bool
 | .mk k n _ ts => (if k = 3 then (kfind mc ⟨n, ts.length⟩).isSome else true) && pTms mc ts
def pTms (mc : List (Ky × Nat)) : List Tm → Bool
 | [] => true
 | t :: ts => pTm mc t && pTms mc ts
end
set_option maxHeartbeats 4000000 in
theorem term100_ok {eb : EbG} (mc : List (Ky × Nat)) : ∀ (m : Nat) (t : Tm), t.nodes ≤ m → t.small → ∀ (H : Heap) (r : Nat) (a c p : A) (bt bc bp : Nat) (g : Bool) (_ : H r = some (tvar a c p bt bc bp g)) (_ : H bc = some (.map (.row [.str, .int .i64]) (encK mc))) (_ : eqn bc r = false) (K : A → Heap → Prop)
  (_ : K (.tup []) (upd H r (tvar a c p bt bc bp (g && pTm mc t)))), ACall Tryd.prog (seatV eb) 100 [.ref r 0, .d t.d] H K
 | 0, t, hm, _, _, _, _, _, _, _, _, _, _, _, _, _, _, _ => by have := t.nodes_pos; omega
 | m + 1, .mk k n i ts, hm, hs, H, r, a, c, p, bt, bc, bp, g, h, hmc, hne, K, hK => by
  simp only [Tm.nodes] at hm
  simp only [pTm] at hK
  have hl := hs.1
  have hq := mget_encK ⟨n, (ts.length : Int)⟩ mc
  simp only [Ky.d, Ky.cs] at hq
  refine ACall.hp_in h ?_
  refine ACall.by mixed fn100 (by simp) ?_
  conv in s100 => cbv
  refine svc_start ?_
  simp -dsimp (maxDischargeDepth := 9) only [go_sem, zA, zB, zC, zD, zE, zF, zG, gS, Tm.d, Tm.cs, Tm.ds_map]
  refine newK_hp (fun b3 f3 => ?_)
  simp only [off_cons, off_nil] at f3
  have h3 := f3.2.2
  have hb3 := eqn_some hmc h3
  simp -dsimp (maxDischargeDepth := 9) only [go_sem, zA, zB, zC, zD, zE, zF, zG, gS, f3]
  refine gif_split (fun g1 => ?_) (fun g1 => ?_)
  ·have e1 : k = 3 := of_decide_eq_true g1
   rw [if_pos e1] at hK
   simp -dsimp (maxDischargeDepth := 9) only [go_sem, zA, zB, zC, zD, zE, zF, zG, gS, g1, f3, hne, hb3, hmc, hq]
   cases hf : kfind mc ⟨n, (ts.length : Int)⟩ with
   | none =>
    simp only [hf, Option.isSome_none, Bool.false_and, Bool.and_false] at hK
    simp -dsimp (maxDischargeDepth := 9) only [go_sem, zA, zB, zC, zD, zE, zF, zG, gS, f3, Option.map_none, Option.getD_none, Option.isSome_none]
    refine need53_ok _ r a c p bt bc bp g _ (by simp only [hpS, eq_self, implies_true, f3]) _ ?_
    simp -dsimp (maxDischargeDepth := 9) only [go_sem, zA, zB, zC, zD, zE, zF, zG, gS, f3]
    refine svc_loop (X := Nat × Bool) (fun y => [(0, .ref r 0), (29, .d (.slice (ts.map Tm.d))), (30, .d (.int .i64 ts.length)), (31, .d (.int .i64 y.1))])
     (fun y G => G = hp H [(r, tvar a c p bt bc bp y.2)] ∧ y.1 ≤ ts.length ∧ (y.2 && pTms mc (ts.drop y.1)) = (false && pTms mc ts)) (fun y => ts.length - y.1) (0, false) _ ⟨rfl, Nat.zero_le _, rfl⟩ (by simp -dsimp (maxDischargeDepth := 9) only [go_sem, zA, zB, zC, zD, zE, zF, zG, gS]) (leH_hp (by simp only [hpS, eq_self, implies_true, f3, Bool.and_true, Bool.and_false]) (by simp only [hpS, eq_self, implies_true, f3, Bool.and_true, Bool.and_false])) ?_
    rintro ⟨j, gj⟩ G ⟨hG, hj, hrun⟩
    simp only at hG hj hrun
    subst hG
    simp -dsimp (maxDischargeDepth := 9) only [go_sem, zA, zB, zC, zD, zE, zF, zG, gS]
    refine gif_split (fun q1 => ?_) (fun q1 => ?_)
    ·have q1' : j < ts.length := by have := of_decide_eq_true q1; omega
     obtain ⟨u, hx⟩ := list_at q1'
     have hw := wrapN (k := j) (by omega)
     have hu := Tm.nodess_mem (List.mem_of_getElem? hx)
     have hus := Tm.smalls_mem hs.2 u (List.mem_of_getElem? hx)
     have ih := fun H h1 h2 K => term100_ok (eb := eb) mc m u (by omega) hus H r a c p bt bc bp gj h1 h2 hne K
     rw [drop_at hx] at hrun
     simp only [pTms] at hrun
     obtain ⟨uk, un, ui, us⟩ := u
     simp -dsimp (maxDischargeDepth := 9) only [go_sem, zA, zB, zC, zD, zE, zF, zG, gS, q1, hx, Tm.d, Tm.cs]
     refine newK_hp (fun b7 f7 => ?_)
     simp only [off_cons, off_nil] at f7
     simp -dsimp (maxDischargeDepth := 9) only [go_sem, zA, zB, zC, zD, zE, zF, zG, gS, f7]
     refine ih _ (by simp only [hpS, eq_self, implies_true, f7]) (by simp only [hpS, eq_self, implies_true, hne, eqn_some hmc f7.2.2, hmc]) _ ?_
     simp -dsimp (maxDischargeDepth := 9) only [go_sem, zA, zB, zC, zD, zE, zF, zG, gS, f7, hw]
     refine roundQ_next (j + 1, gj && pTm mc (.mk uk un ui us)) _ ⟨rfl, q1', by simp only; rw [← hrun, Bool.and_assoc]⟩ (by simp only; omega) (by simp -dsimp (maxDischargeDepth := 9) only [go_sem, zA, zB, zC, zD, zE, zF, zG, gS]) (leH_hp (by simp only [hpS, eq_self, implies_true, f7]) (by simp only [hpS, eq_self, implies_true, f7]))
    ·rw [drop_end (by have := of_decide_eq_false q1; omega)] at hrun
     simp only [pTms, Bool.and_true] at hrun
     simp -dsimp (maxDischargeDepth := 9) only [go_sem, zA, zB, zC, zD, zE, zF, zG, gS, q1]
     refine retW_is ?_
     have e : upd H r (tvar a c p bt bc bp gj) = hp H [(r, tvar a c p bt bc bp gj)] := rfl
     rw [← e, hrun]
     simpa using hK
   | some v =>
    simp only [hf, Option.isSome_some, Bool.true_and] at hK
    simp -dsimp (maxDischargeDepth := 9) only [go_sem, zA, zB, zC, zD, zE, zF, zG, gS, f3, Option.map_some, Option.getD_some, Option.isSome_some]
    refine need53_ok _ r a c p bt bc bp g _ (by simp only [hpS, eq_self, implies_true, f3]) _ ?_
    simp -dsimp (maxDischargeDepth := 9) only [go_sem, zA, zB, zC, zD, zE, zF, zG, gS, f3]
    refine svc_loop (X := Nat × Bool) (fun y => [(0, .ref r 0), (29, .d (.slice (ts.map Tm.d))), (30, .d (.int .i64 ts.length)), (31, .d (.int .i64 y.1))])
     (fun y G => G = hp H [(r, tvar a c p bt bc bp y.2)] ∧ y.1 ≤ ts.length ∧ (y.2 && pTms mc (ts.drop y.1)) = (g && pTms mc ts)) (fun y => ts.length - y.1) (0, g) _ ⟨rfl, Nat.zero_le _, rfl⟩ (by simp -dsimp (maxDischargeDepth := 9) only [go_sem, zA, zB, zC, zD, zE, zF, zG, gS]) (leH_hp (by simp only [hpS, eq_self, implies_true, f3, Bool.and_true, Bool.and_false]) (by simp only [hpS, eq_self, implies_true, f3, Bool.and_true, Bool.and_false])) ?_
    rintro ⟨j, gj⟩ G ⟨hG, hj, hrun⟩
    simp only at hG hj hrun
    subst hG
    simp -dsimp (maxDischargeDepth := 9) only [go_sem, zA, zB, zC, zD, zE, zF, zG, gS]
    refine gif_split (fun q1 => ?_) (fun q1 => ?_)
    ·have q1' : j < ts.length := by have := of_decide_eq_true q1; omega
     obtain ⟨u, hx⟩ := list_at q1'
     have hw := wrapN (k := j) (by omega)
     have hu := Tm.nodess_mem (List.mem_of_getElem? hx)
     have hus := Tm.smalls_mem hs.2 u (List.mem_of_getElem? hx)
     have ih := fun H h1 h2 K => term100_ok (eb := eb) mc m u (by omega) hus H r a c p bt bc bp gj h1 h2 hne K
     rw [drop_at hx] at hrun
     simp only [pTms] at hrun
     obtain ⟨uk, un, ui, us⟩ := u
     simp -dsimp (maxDischargeDepth := 9) only [go_sem, zA, zB, zC, zD, zE, zF, zG, gS, q1, hx, Tm.d, Tm.cs]
     refine newK_hp (fun b7 f7 => ?_)
     simp only [off_cons, off_nil] at f7
     simp -dsimp (maxDischargeDepth := 9) only [go_sem, zA, zB, zC, zD, zE, zF, zG, gS, f7]
     refine ih _ (by simp only [hpS, eq_self, implies_true, f7]) (by simp only [hpS, eq_self, implies_true, hne, eqn_some hmc f7.2.2, hmc]) _ ?_
     simp -dsimp (maxDischargeDepth := 9) only [go_sem, zA, zB, zC, zD, zE, zF, zG, gS, f7, hw]
     refine roundQ_next (j + 1, gj && pTm mc (.mk uk un ui us)) _ ⟨rfl, q1', by simp only; rw [← hrun, Bool.and_assoc]⟩ (by simp only; omega) (by simp -dsimp (maxDischargeDepth := 9) only [go_sem, zA, zB, zC, zD, zE, zF, zG, gS]) (leH_hp (by simp only [hpS, eq_self, implies_true, f7]) (by simp only [hpS, eq_self, implies_true, f7]))
    ·rw [drop_end (by have := of_decide_eq_false q1; omega)] at hrun
     simp only [pTms, Bool.and_true] at hrun
     simp -dsimp (maxDischargeDepth := 9) only [go_sem, zA, zB, zC, zD, zE, zF, zG, gS, q1]
     refine retW_is ?_
     have e : upd H r (tvar a c p bt bc bp gj) = hp H [(r, tvar a c p bt bc bp gj)] := rfl
     rw [← e, hrun]
     exact hK
  ·have e1 : k ≠ 3 := of_decide_eq_false g1
   rw [if_neg e1, Bool.true_and] at hK
   simp -dsimp (maxDischargeDepth := 9) only [go_sem, zA, zB, zC, zD, zE, zF, zG, gS, g1, f3]
   refine svc_loop (X := Nat × Bool) (fun y => [(0, .ref r 0), (29, .d (.slice (ts.map Tm.d))), (30, .d (.int .i64 ts.length)), (31, .d (.int .i64 y.1))])
    (fun y G => G = hp H [(r, tvar a c p bt bc bp y.2)] ∧ y.1 ≤ ts.length ∧ (y.2 && pTms mc (ts.drop y.1)) = (g && pTms mc ts)) (fun y => ts.length - y.1) (0, g) _ ⟨rfl, Nat.zero_le _, rfl⟩ (by simp -dsimp (maxDischargeDepth := 9) only [go_sem, zA, zB, zC, zD, zE, zF, zG, gS]) (leH_hp (by simp only [hpS, eq_self, implies_true, f3, Bool.and_true, Bool.and_false]) (by simp only [hpS, eq_self, implies_true, f3, Bool.and_true, Bool.and_false])) ?_
   rintro ⟨j, gj⟩ G ⟨hG, hj, hrun⟩
   simp only at hG hj hrun
   subst hG
   simp -dsimp (maxDischargeDepth := 9) only [go_sem, zA, zB, zC, zD, zE, zF, zG, gS]
   refine gif_split (fun q1 => ?_) (fun q1 => ?_)
   ·have q1' : j < ts.length := by have := of_decide_eq_true q1; omega
    obtain ⟨u, hx⟩ := list_at q1'
    have hw := wrapN (k := j) (by omega)
    have hu := Tm.nodess_mem (List.mem_of_getElem? hx)
    have hus := Tm.smalls_mem hs.2 u (List.mem_of_getElem? hx)
    have ih := fun H h1 h2 K => term100_ok (eb := eb) mc m u (by omega) hus H r a c p bt bc bp gj h1 h2 hne K
    rw [drop_at hx] at hrun
    simp only [pTms] at hrun
    obtain ⟨uk, un, ui, us⟩ := u
    simp -dsimp (maxDischargeDepth := 9) only [go_sem, zA, zB, zC, zD, zE, zF, zG, gS, q1, hx, Tm.d, Tm.cs]
    refine newK_hp (fun b7 f7 => ?_)
    simp only [off_cons, off_nil] at f7
    simp -dsimp (maxDischargeDepth := 9) only [go_sem, zA, zB, zC, zD, zE, zF, zG, gS, f7]
    refine ih _ (by simp only [hpS, eq_self, implies_true, f7]) (by simp only [hpS, eq_self, implies_true, hne, eqn_some hmc f7.2.2, hmc]) _ ?_
    simp -dsimp (maxDischargeDepth := 9) only [go_sem, zA, zB, zC, zD, zE, zF, zG, gS, f7, hw]
    refine roundQ_next (j + 1, gj && pTm mc (.mk uk un ui us)) _ ⟨rfl, q1', by simp only; rw [← hrun, Bool.and_assoc]⟩ (by simp only; omega) (by simp -dsimp (maxDischargeDepth := 9) only [go_sem, zA, zB, zC, zD, zE, zF, zG, gS]) (leH_hp (by simp only [hpS, eq_self, implies_true, f7]) (by simp only [hpS, eq_self, implies_true, f7]))
   ·rw [drop_end (by have := of_decide_eq_false q1; omega)] at hrun
    simp only [pTms, Bool.and_true] at hrun
    simp -dsimp (maxDischargeDepth := 9) only [go_sem, zA, zB, zC, zD, zE, zF, zG, gS, q1]
    refine retW_is ?_
    have e : upd H r (tvar a c p bt bc bp gj) = hp H [(r, tvar a c p bt bc bp gj)] := rfl
    rw [← e, hrun]
    exact hK
mutual
/-- Does a goal name what is declared? -/
def pGl (mc mp : List (Ky × Nat)) : Gl → Bool
 | .mk k a b n xs gs => ((if k = 4 then (kfind mp ⟨n, xs.length⟩).isSome else if k = 3 then pTm mc a && pTm mc b else if k = 8 then pTm mc a else true) && pTms mc xs) && pGls mc mp gs
def pGls (mc mp : List (Ky × Nat)) : List Gl → Bool
 | [] => true
 | t :: ts => pGl mc mp t && pGls mc mp ts
end
set_option maxHeartbeats 8000000 in
theorem goal101_ok {eb : EbG} (mc mp : List (Ky × Nat)) : ∀ (m : Nat) (t : Gl), t.nodes ≤ m → t.small → ∀ (H : Heap) (r : Nat) (a c p : A) (bt bc bp : Nat) (g : Bool) (_ : H r = some (tvar a c p bt bc bp g)) (_ : H bc = some (.map (.row [.str, .int .i64]) (encK mc))) (_ : H bp = some (.map (.row [.str, .int .i64]) (encK mp))) (_ : eqn bc r = false) (_ : eqn bp r = false) (K : A → Heap → Prop)
  (_ : K (.tup []) (upd H r (tvar a c p bt bc bp (g && pGl mc mp t)))), ACall Tryd.prog (seatV eb) 101 [.ref r 0, .d t.d] H K
 | 0, t, hm, _, _, _, _, _, _, _, _, _, _, _, _, _, _, _, _, _ => by have := t.nodes_pos; omega
 | m + 1, .mk k (.mk k1 n1 i1 xs1) (.mk k2 n2 i2 xs2) n xs gs, hm, hs, H, r, a, c, p, bt, bc, bp, g, h, hmc, hmp, hne, hnp, K, hK => by
  obtain ⟨hsa, hsb, hxl, hsx, hgl, hsg⟩ := hs
  simp only [Gl.nodes] at hm
  simp only [pGl] at hK
  have hq := mget_encK ⟨n, (xs.length : Int)⟩ mp
  simp only [Ky.d, Ky.cs] at hq
  refine ACall.hp_in h ?_
  refine ACall.by mixed fn101 (by simp) ?_
  conv in s101 => cbv
  refine svc_start ?_
  simp -dsimp (maxDischargeDepth := 9) only [go_sem, zA, zB, zC, zD, zE, zF, zG, gS, Gl.d, Gl.cs, Tm.cs, List.cons_append, List.nil_append, Gl.ds_map]
  refine newK_hp (fun b3 f3 => ?_)
  simp only [off_cons, off_nil] at f3
  have h3 := f3.2.2
  have hb3 := eqn_some hmc h3
  have hp3 := eqn_some hmp h3
  have tma := fun H gx h1 h2 K => term100_ok (eb := eb) mc _ (.mk k1 n1 i1 xs1) (Nat.le_refl _) hsa H r a c p bt bc bp gx h1 h2 hne K
  have tmb := fun H gx h1 h2 K => term100_ok (eb := eb) mc _ (.mk k2 n2 i2 xs2) (Nat.le_refl _) hsb H r a c p bt bc bp gx h1 h2 hne K
  obtain ⟨HD, hHD⟩ : ∃ b : Bool, b = if k = 4 then (kfind mp ⟨n, xs.length⟩).isSome else if k = 3 then pTm mc (.mk k1 n1 i1 xs1) && pTm mc (.mk k2 n2 i2 xs2) else if k = 8 then pTm mc (.mk k1 n1 i1 xs1) else true := ⟨_, rfl⟩
  rw [← hHD] at hK
  simp -dsimp (maxDischargeDepth := 9) only [go_sem, zA, zB, zC, zD, zE, zF, zG, gS, f3]
  refine (fun (key : (?T : Prop)) => ?main) ?rest
  case main =>
   refine gif_split (fun g1 => ?_) (fun g1 => ?_)
   ·have e1 : k = 4 := of_decide_eq_true g1
    rw [if_pos e1] at hHD
    simp -dsimp (maxDischargeDepth := 9) only [go_sem, zA, zB, zC, zD, zE, zF, zG, gS, g1, f3, hnp, hp3, hmp, hq]
    cases hf : kfind mp ⟨n, (xs.length : Int)⟩ with
    | none =>
     rw [hf, Option.isSome_none] at hHD
     simp -dsimp (maxDischargeDepth := 9) only [go_sem, zA, zB, zC, zD, zE, zF, zG, gS, f3, Option.map_none, Option.getD_none, Option.isSome_none]
     refine need53_ok _ r a c p bt bc bp g _ (by simp only [hpS, eq_self, implies_true, f3]) _ ?_
     simp -dsimp (maxDischargeDepth := 9) only [go_sem, zA, zB, zC, zD, zE, zF, zG, gS, f3]
     refine svc_loop (X := Nat × Bool) (fun y => [(0, .ref r 0), (3, .ref b3 0), (48, .d (.slice (xs.map Tm.d))), (49, .d (.int .i64 xs.length)), (50, .d (.int .i64 y.1))])
      (fun y G => G = hp H [(r, tvar a c p bt bc bp y.2), (b3, .var [.d (.int .i64 k), .d (.int .i64 k1), .d (.str n1), .d (.int .i64 i1), .d (.slice (Tm.ds xs1)), .d (.int .i64 k2), .d (.str n2), .d (.int .i64 i2), .d (.slice (Tm.ds xs2)), .d (.str n), .d (.slice (xs.map Tm.d)), .d (.slice (gs.map Gl.d))])] ∧ y.1 ≤ xs.length ∧ (y.2 && pTms mc (xs.drop y.1)) = ((g && HD) && pTms mc xs)) (fun y => xs.length - y.1) (0, false) _ ⟨rfl, Nat.zero_le _, by simp only [hHD, Bool.and_false, List.drop_zero]⟩ (by simp -dsimp (maxDischargeDepth := 9) only [go_sem, zA, zB, zC, zD, zE, zF, zG, gS]) (leH_hp (by simp only [hpS, eq_self, implies_true, f3, Bool.and_true, Bool.and_false]) (by simp only [hpS, eq_self, implies_true, f3, Bool.and_true, Bool.and_false])) ?_
     exact key
    | some v =>
     rw [hf, Option.isSome_some] at hHD
     simp -dsimp (maxDischargeDepth := 9) only [go_sem, zA, zB, zC, zD, zE, zF, zG, gS, f3, Option.map_some, Option.getD_some, Option.isSome_some]
     refine need53_ok _ r a c p bt bc bp g _ (by simp only [hpS, eq_self, implies_true, f3]) _ ?_
     simp -dsimp (maxDischargeDepth := 9) only [go_sem, zA, zB, zC, zD, zE, zF, zG, gS, f3]
     refine svc_loop (X := Nat × Bool) (fun y => [(0, .ref r 0), (3, .ref b3 0), (48, .d (.slice (xs.map Tm.d))), (49, .d (.int .i64 xs.length)), (50, .d (.int .i64 y.1))])
      (fun y G => G = hp H [(r, tvar a c p bt bc bp y.2), (b3, .var [.d (.int .i64 k), .d (.int .i64 k1), .d (.str n1), .d (.int .i64 i1), .d (.slice (Tm.ds xs1)), .d (.int .i64 k2), .d (.str n2), .d (.int .i64 i2), .d (.slice (Tm.ds xs2)), .d (.str n), .d (.slice (xs.map Tm.d)), .d (.slice (gs.map Gl.d))])] ∧ y.1 ≤ xs.length ∧ (y.2 && pTms mc (xs.drop y.1)) = ((g && HD) && pTms mc xs)) (fun y => xs.length - y.1) (0, g) _ ⟨rfl, Nat.zero_le _, by simp only [hHD, Bool.and_true, List.drop_zero]⟩ (by simp -dsimp (maxDischargeDepth := 9) only [go_sem, zA, zB, zC, zD, zE, zF, zG, gS]) (leH_hp (by simp only [hpS, eq_self, implies_true, f3, Bool.and_true, Bool.and_false]) (by simp only [hpS, eq_self, implies_true, f3, Bool.and_true, Bool.and_false])) ?_
     exact key
   ·have e1 : k ≠ 4 := of_decide_eq_false g1
    rw [if_neg e1] at hHD
    simp -dsimp (maxDischargeDepth := 9) only [go_sem, zA, zB, zC, zD, zE, zF, zG, gS, g1, f3]
    refine gif_split (fun g2 => ?_) (fun g2 => ?_)
    ·have e2 : k = 3 := of_decide_eq_true g2
     rw [if_pos e2] at hHD
     simp -dsimp (maxDischargeDepth := 9) only [go_sem, zA, zB, zC, zD, zE, zF, zG, gS, g2, f3]
     refine tma _ g (by simp only [hpS, eq_self, implies_true, f3]) (by simp only [hpS, eq_self, implies_true, hne, hb3, hmc]) _ ?_
     simp -dsimp (maxDischargeDepth := 9) only [go_sem, zA, zB, zC, zD, zE, zF, zG, gS, f3]
     refine tmb _ (g && pTm mc (.mk k1 n1 i1 xs1)) (by simp only [hpS, eq_self, implies_true, f3]) (by simp only [hpS, eq_self, implies_true, hne, hb3, hmc]) _ ?_
     simp -dsimp (maxDischargeDepth := 9) only [go_sem, zA, zB, zC, zD, zE, zF, zG, gS, f3]
     refine svc_loop (X := Nat × Bool) (fun y => [(0, .ref r 0), (3, .ref b3 0), (48, .d (.slice (xs.map Tm.d))), (49, .d (.int .i64 xs.length)), (50, .d (.int .i64 y.1))])
      (fun y G => G = hp H [(r, tvar a c p bt bc bp y.2), (b3, .var [.d (.int .i64 k), .d (.int .i64 k1), .d (.str n1), .d (.int .i64 i1), .d (.slice (Tm.ds xs1)), .d (.int .i64 k2), .d (.str n2), .d (.int .i64 i2), .d (.slice (Tm.ds xs2)), .d (.str n), .d (.slice (xs.map Tm.d)), .d (.slice (gs.map Gl.d))])] ∧ y.1 ≤ xs.length ∧ (y.2 && pTms mc (xs.drop y.1)) = ((g && HD) && pTms mc xs)) (fun y => xs.length - y.1) (0, ((g && pTm mc (.mk k1 n1 i1 xs1)) && pTm mc (.mk k2 n2 i2 xs2))) _ ⟨rfl, Nat.zero_le _, by simp only [hHD, Bool.and_assoc, List.drop_zero]⟩ (by simp -dsimp (maxDischargeDepth := 9) only [go_sem, zA, zB, zC, zD, zE, zF, zG, gS]) (leH_hp (by simp only [hpS, eq_self, implies_true, f3, Bool.and_true, Bool.and_false]) (by simp only [hpS, eq_self, implies_true, f3, Bool.and_true, Bool.and_false])) ?_
     exact key
    ·have e2 : k ≠ 3 := of_decide_eq_false g2
     rw [if_neg e2] at hHD
     simp -dsimp (maxDischargeDepth := 9) only [go_sem, zA, zB, zC, zD, zE, zF, zG, gS, g2, f3]
     refine gif_split (fun g3 => ?_) (fun g3 => ?_)
     ·have e3 : k = 8 := of_decide_eq_true g3
      rw [if_pos e3] at hHD
      simp -dsimp (maxDischargeDepth := 9) only [go_sem, zA, zB, zC, zD, zE, zF, zG, gS, g3, f3]
      refine tma _ g (by simp only [hpS, eq_self, implies_true, f3]) (by simp only [hpS, eq_self, implies_true, hne, hb3, hmc]) _ ?_
      simp -dsimp (maxDischargeDepth := 9) only [go_sem, zA, zB, zC, zD, zE, zF, zG, gS, f3]
      refine svc_loop (X := Nat × Bool) (fun y => [(0, .ref r 0), (3, .ref b3 0), (48, .d (.slice (xs.map Tm.d))), (49, .d (.int .i64 xs.length)), (50, .d (.int .i64 y.1))])
       (fun y G => G = hp H [(r, tvar a c p bt bc bp y.2), (b3, .var [.d (.int .i64 k), .d (.int .i64 k1), .d (.str n1), .d (.int .i64 i1), .d (.slice (Tm.ds xs1)), .d (.int .i64 k2), .d (.str n2), .d (.int .i64 i2), .d (.slice (Tm.ds xs2)), .d (.str n), .d (.slice (xs.map Tm.d)), .d (.slice (gs.map Gl.d))])] ∧ y.1 ≤ xs.length ∧ (y.2 && pTms mc (xs.drop y.1)) = ((g && HD) && pTms mc xs)) (fun y => xs.length - y.1) (0, (g && pTm mc (.mk k1 n1 i1 xs1))) _ ⟨rfl, Nat.zero_le _, by simp only [hHD, List.drop_zero]⟩ (by simp -dsimp (maxDischargeDepth := 9) only [go_sem, zA, zB, zC, zD, zE, zF, zG, gS]) (leH_hp (by simp only [hpS, eq_self, implies_true, f3, Bool.and_true, Bool.and_false]) (by simp only [hpS, eq_self, implies_true, f3, Bool.and_true, Bool.and_false])) ?_
      exact key
     ·have e3 : k ≠ 8 := of_decide_eq_false g3
      rw [if_neg e3] at hHD
      simp -dsimp (maxDischargeDepth := 9) only [go_sem, zA, zB, zC, zD, zE, zF, zG, gS, g3, f3]
      refine svc_loop (X := Nat × Bool) (fun y => [(0, .ref r 0), (3, .ref b3 0), (48, .d (.slice (xs.map Tm.d))), (49, .d (.int .i64 xs.length)), (50, .d (.int .i64 y.1))])
       (fun y G => G = hp H [(r, tvar a c p bt bc bp y.2), (b3, .var [.d (.int .i64 k), .d (.int .i64 k1), .d (.str n1), .d (.int .i64 i1), .d (.slice (Tm.ds xs1)), .d (.int .i64 k2), .d (.str n2), .d (.int .i64 i2), .d (.slice (Tm.ds xs2)), .d (.str n), .d (.slice (xs.map Tm.d)), .d (.slice (gs.map Gl.d))])] ∧ y.1 ≤ xs.length ∧ (y.2 && pTms mc (xs.drop y.1)) = ((g && HD) && pTms mc xs)) (fun y => xs.length - y.1) (0, g) _ ⟨rfl, Nat.zero_le _, by simp only [hHD, Bool.and_true, List.drop_zero]⟩ (by simp -dsimp (maxDischargeDepth := 9) only [go_sem, zA, zB, zC, zD, zE, zF, zG, gS]) (leH_hp (by simp only [hpS, eq_self, implies_true, f3, Bool.and_true, Bool.and_false]) (by simp only [hpS, eq_self, implies_true, f3, Bool.and_true, Bool.and_false])) ?_
      exact key
  case rest =>
   clear tmb
   rintro ⟨j, gj⟩ G ⟨hG, hj, hrun⟩
   simp only at hG hj hrun
   subst hG
   simp -dsimp (maxDischargeDepth := 9) only [go_sem, zA, zB, zC, zD, zE, zF, zG, gS]
   refine gif_split (fun q1 => ?_) (fun q1 => ?_)
   ·have q1' : j < xs.length := by have := of_decide_eq_true q1; omega
    obtain ⟨u, hx⟩ := list_at q1'
    have hw := wrapN (k := j) (by omega)
    have hus := Tm.smalls_mem hsx u (List.mem_of_getElem? hx)
    have ih := fun H h1 h2 K => term100_ok (eb := eb) mc _ u (Nat.le_refl _) hus H r a c p bt bc bp gj h1 h2 hne K
    rw [drop_at hx] at hrun
    simp only [pTms] at hrun
    obtain ⟨uk, un, ui, us⟩ := u
    simp -dsimp (maxDischargeDepth := 9) only [go_sem, zA, zB, zC, zD, zE, zF, zG, gS, q1, hx, f3, Tm.d, Tm.cs]
    refine newK_hp (fun b7 f7 => ?_)
    simp only [off_cons, off_nil] at f7
    simp -dsimp (maxDischargeDepth := 9) only [go_sem, zA, zB, zC, zD, zE, zF, zG, gS, f3, f7]
    refine ih _ (by simp only [hpS, eq_self, implies_true, f3, f7]) (by simp only [hpS, eq_self, implies_true, hne, hb3, eqn_some hmc f7.2.2.2.2, hmc]) _ ?_
    simp -dsimp (maxDischargeDepth := 9) only [go_sem, zA, zB, zC, zD, zE, zF, zG, gS, f3, f7, hw]
    refine roundQ_next (j + 1, gj && pTm mc (.mk uk un ui us)) _ ⟨rfl, q1', by simp only; rw [← hrun, Bool.and_assoc]⟩ (by simp only; omega) (by simp -dsimp (maxDischargeDepth := 9) only [go_sem, zA, zB, zC, zD, zE, zF, zG, gS]) (leH_hp (by simp only [hpS, eq_self, implies_true, f3, f7]) (by simp only [hpS, eq_self, implies_true, f3, f7]))
   ·rw [drop_end (by have := of_decide_eq_false q1; omega)] at hrun
    simp only [pTms, Bool.and_true] at hrun
    simp -dsimp (maxDischargeDepth := 9) only [go_sem, zA, zB, zC, zD, zE, zF, zG, gS, q1, f3]
    refine svc_loop (X := Nat × Bool) (fun y => [(0, .ref r 0), (59, .d (.slice (gs.map Gl.d))), (60, .d (.int .i64 gs.length)), (61, .d (.int .i64 y.1))])
     (fun y G => G = hp H [(r, tvar a c p bt bc bp y.2)] ∧ y.1 ≤ gs.length ∧ (y.2 && pGls mc mp (gs.drop y.1)) = (gj && pGls mc mp gs)) (fun y => gs.length - y.1) (0, gj) _ ⟨rfl, Nat.zero_le _, rfl⟩ (by simp -dsimp (maxDischargeDepth := 9) only [go_sem, zA, zB, zC, zD, zE, zF, zG, gS]) (leH_hp (by simp only [hpS, eq_self, implies_true, f3]) (by simp only [hpS, eq_self, implies_true, f3])) ?_
    clear hj q1
    rintro ⟨j2, g2⟩ G ⟨hG, hj, hrun2⟩
    simp only at hG hj hrun2
    subst hG
    simp -dsimp (maxDischargeDepth := 9) only [go_sem, zA, zB, zC, zD, zE, zF, zG, gS]
    refine gif_split (fun q1 => ?_) (fun q1 => ?_)
    ·have q1' : j2 < gs.length := by have := of_decide_eq_true q1; omega
     obtain ⟨u, hx⟩ := list_at q1'
     have hw := wrapN (k := j2) (by omega)
     have hu := Gl.nodess_mem (List.mem_of_getElem? hx)
     have hus := Gl.smalls_mem hsg u (List.mem_of_getElem? hx)
     have ih := fun H h1 h2 h3 K => goal101_ok (eb := eb) mc mp m u (by omega) hus H r a c p bt bc bp g2 h1 h2 h3 hne hnp K
     rw [drop_at hx] at hrun2
     simp only [pGls] at hrun2
     generalize hpg : pGl mc mp u = pg at hrun2 ih
     obtain ⟨gk, ⟨g1, m1, j1, y1⟩, ⟨g4, m2, j3, y2⟩, gn, gxs, ggs⟩ := u
     simp -dsimp (maxDischargeDepth := 9) only [go_sem, zA, zB, zC, zD, zE, zF, zG, gS, q1, hx, Gl.d, Gl.cs, Tm.cs, List.cons_append, List.nil_append]
     refine newK_hp (fun b9 f9 => ?_)
     simp only [off_cons, off_nil] at f9
     simp -dsimp (maxDischargeDepth := 9) only [go_sem, zA, zB, zC, zD, zE, zF, zG, gS, f9]
     refine ih _ (by simp only [hpS, eq_self, implies_true, f9]) (by simp only [hpS, eq_self, implies_true, hne, eqn_some hmc f9.2.2, hmc]) (by simp only [hpS, eq_self, implies_true, hnp, eqn_some hmp f9.2.2, hmp]) _ ?_
     simp -dsimp (maxDischargeDepth := 9) only [go_sem, zA, zB, zC, zD, zE, zF, zG, gS, f9, hw]
     refine roundQ_next (j2 + 1, g2 && pg) _ ⟨rfl, q1', by simp only; rw [← hrun2, Bool.and_assoc]⟩ (by simp only; omega) (by simp -dsimp (maxDischargeDepth := 9) only [go_sem, zA, zB, zC, zD, zE, zF, zG, gS]) (leH_hp (by simp only [hpS, eq_self, implies_true, f9]) (by simp only [hpS, eq_self, implies_true, f9]))
    ·rw [drop_end (by have := of_decide_eq_false q1; omega)] at hrun2
     simp only [pGls, Bool.and_true] at hrun2
     simp -dsimp (maxDischargeDepth := 9) only [go_sem, zA, zB, zC, zD, zE, zF, zG, gS, q1]
     refine retW_is ?_
     have e : upd H r (tvar a c p bt bc bp g2) = hp H [(r, tvar a c p bt bc bp g2)] := rfl
     rw [← e, hrun2, hrun, Bool.and_assoc, Bool.and_assoc, ← Bool.and_assoc HD]
     exact hK
end Go.Aug

/- The program's names: types are declared. -/
namespace Go.Aug
open Nat renaming reduceBEq → zA, reduceLT → zB, reduceAdd → zC, reduceSub → zD, reduceMul → zE, reduceLeDiff → zF
open Int renaming reduceLE → zG
open Go.Proofs
set_option maxRecDepth 100000
set_option linter.unusedSimpArgs false
attribute [local irreducible] hid andK letA onSome onVar onArr arrOnly onInt onBool onFunc onTup idxA ldV ldD addO appTo fillL slA srcK nilQ retW gif sgd sguard svc sops sdops sagain aopO aLoad aStore aBin aUn aConv aLen aIndexAddr aIndex aIndexAddrS aIndexS aSlice aAppend aBuild aBuildSlice aMakeSlice aField aFieldOf aCallOp deepK deepL frzM putE newK newV growV ACall roundQ thenQ inBlockQ sret cnd szs nilC onMap onRow aLookup aMapUpdate aMakeMap
attribute [local go_sem] Int.natCast_zero
/-- Names that were seen. -/
def encS (l : List ByteArray) : List (D × D) := l.map fun v => (.str v, .bool true)
def sput (l : List ByteArray) (v : ByteArray) : List ByteArray := if l.any (fun x => decide (v = x)) = true then l else l ++ [v]
theorem mget_encS (v : ByteArray) : ∀ l : List ByteArray, mget (encS l) (.str v) = if l.any (fun x => decide (v = x)) = true then some (.bool true) else none
 | [] => rfl
 | a :: l => by
  simp only [encS, List.map_cons, mget, keq, leq, List.any_cons, decide_eq_true_eq, Bool.or_eq_true]
  by_cases h : v = a
  ·simp [h]
  ·have := mget_encS v l
   simp only [encS] at this
   simp only [h, if_false, this, false_or]
theorem mput_encS (v : ByteArray) : ∀ l : List ByteArray, mput (encS l) (.str v) (.bool true) = encS (sput l v)
 | [] => rfl
 | a :: l => by
  have ih := mput_encS v l
  simp only [encS, List.map_cons, mput, keq, leq, decide_eq_true_eq, sput, List.any_cons, Bool.or_eq_true] at ih ⊢
  by_cases h : v = a
  ·simp [h]
  ·simp only [h, if_false, false_or]
   rw [ih]
   split <;> simp
theorem getD_seen (b : Bool) : (if b = true then some (D.bool true) else none).getD (D.bool false) = .bool b := by cases b <;> rfl
def pDist : List ByteArray → List ByteArray → Bool
 | _, [] => true
 | s, v :: vs => !(s.any fun x => decide (v = x)) && pDist (sput s v) vs
def pCts : Nat → List (Ky × Nat) → List Ct → Bool × List (Ky × Nat)
 | _, mc, [] => (true, mc)
 | n, mc, c :: cs => ((kfind mc ⟨c.name, c.args.length⟩).isNone && (pCts (n + 1) (kput mc ⟨c.name, c.args.length⟩ n) cs).1, (pCts (n + 1) (kput mc ⟨c.name, c.args.length⟩ n) cs).2)
/-- The four blocks of a table are apart. -/
structure Four (r bt bc bp : Nat) : Prop where
 a1 : eqn r bt = false
 a2 : eqn bt r = false
 a3 : eqn r bc = false
 a4 : eqn bc r = false
 a5 : eqn r bp = false
 a6 : eqn bp r = false
 a7 : eqn bt bc = false
 a8 : eqn bc bt = false
 a9 : eqn bt bp = false
 a10 : eqn bp bt = false
 a11 : eqn bc bp = false
 a12 : eqn bp bc = false
set_option maxHeartbeats 16000000 in
theorem declareType95_ok {eb : EbG} (it : It) (hit : it.small) {H0 R : Heap} {r bt bc bp : Nat} (h4 : Four r bt bc bp) {types : List It} {ctors : List Cr} {t c p : A} {rest : List Pc} (hacc : AccN H0 [r, bt, bc, bp] (pcT types t :: pcC ctors c :: rest) R)
  (ht : types.length ≤ 1048576) (hc : ctors.length ≤ 1099511627776) (mt : List (ByteArray × Nat)) (mc mp : List (Ky × Nat)) (g : Bool) (K : A → Heap → Prop)
  (hK : ∀ t' c' R', AccN H0 [r, bt, bc, bp] (pcT (types ++ [it]) t' :: pcC (ctors ++ ctsFrom it 0 it.ctors) c' :: rest) R' →
   K (.tup []) (hp R' [(r, tvar t' c' p bt bc bp (g && ((nfind mt it.name).isNone && (pDist [] it.vars && (pCts ctors.length mc it.ctors).1)))), (bt, .map (.one .str) (enc (nput mt it.name it.vars.length))), (bc, .map (.row [.str, .int .i64]) (encK ((pCts ctors.length mc it.ctors).2))), (bp, .map (.row [.str, .int .i64]) (encK mp))])) :
  ACall Tryd.prog (seatV eb) 95 [.ref r 0, .d it.d] (hp R [(r, tvar t c p bt bc bp g), (bt, .map (.one .str) (enc (mt))), (bc, .map (.row [.str, .int .i64]) (encK (mc))), (bp, .map (.row [.str, .int .i64]) (encK mp))]) K := by
 obtain ⟨a1, a2, a3, a4, a5, a6, a7, a8, a9, a10, a11, a12⟩ := h4
 obtain ⟨x1, x2, x3, x4, x5, x6, x7, x8, x9, x10, x11, x12, hbody, hd⟩ := it.opn
 have hvl := hit.vars
 have hnc := hit.nct
 rw [hd]
 refine ACall.by mixed fn95 (by simp) ?_
 conv in s95 => cbv
 refine svc_start ?_
 simp -dsimp (maxDischargeDepth := 9) only [go_sem, zA, zB, zC, zD, zE, zF, zG, gS]
 refine newK_hp (fun b3 f3 => ?_)
 simp only [off_cons, off_nil] at f3
 simp -dsimp (maxDischargeDepth := 9) only [go_sem, zA, zB, zC, zD, zE, zF, zG, gS, a1, a2, a3, a4, a5, a6, a7, a8, a9, a10, a11, a12, f3, mget_enc, Option.isSome_map]
 refine need53_ok _ r t c p bt bc bp g _ (by simp only [hpS, eq_self, implies_true, a1, a2, a3, a4, a5, a6, a7, a8, a9, a10, a11, a12, f3]) _ ?_
 simp -dsimp (maxDischargeDepth := 9) only [go_sem, zA, zB, zC, zD, zE, zF, zG, gS, a1, a2, a3, a4, a5, a6, a7, a8, a9, a10, a11, a12, f3, mput_enc]
 refine newK_hp (fun b6 f6 => ?_)
 simp only [off_cons, off_nil] at f6
 simp -dsimp (maxDischargeDepth := 9) only [go_sem, zA, zB, zC, zD, zE, zF, zG, gS, a1, a2, a3, a4, a5, a6, a7, a8, a9, a10, a11, a12, f3, f6]
 obtain ⟨g0, hg0⟩ : ∃ g0, g0 = (g && !(nfind mt it.name).isSome) := ⟨_, rfl⟩
 rw [← hg0]
 refine svc_loop (X := Nat × List ByteArray × Bool) (fun y => [(0, .ref r 0), (3, .ref b3 0), (6, .mp b6), (39, .d (.slice (it.vars.map .str))), (40, .d (.int .i64 it.vars.length)), (41, .d (.int .i64 y.1))])
  (fun y G => G = hp R [(r, tvar t c p bt bc bp y.2.2), (bt, .map (.one .str) (enc (nput mt it.name it.vars.length))), (bc, .map (.row [.str, .int .i64]) (encK (mc))), (bp, .map (.row [.str, .int .i64]) (encK mp)), (b3, .var [.d (.int .i64 it.kind), .d (.str it.name), .d (.slice (it.vars.map .str)), .d (.slice (it.ctors.map Ct.d)), .d (.slice (it.types.map Ty.d)), .d (.slice (it.ways.map .bool)), .d (.int .i64 it.det), .d (.slice (it.args.map Tm.d)), .d x1, .d x2, .d x3, .d x4, .d x5, .d x6, .d x7, .d x8, .d x9, .d x10, .d x11, .d x12]), (b6, .map (.one .str) (encS y.2.1))] ∧ y.1 ≤ it.vars.length ∧ (y.2.2 && pDist y.2.1 (it.vars.drop y.1)) = (g0 && pDist [] it.vars)) (fun y => it.vars.length - y.1) (0, [], g0) _ ⟨rfl, Nat.zero_le _, rfl⟩ (by simp -dsimp (maxDischargeDepth := 9) only [go_sem, zA, zB, zC, zD, zE, zF, zG, gS]) (leH_hp (by simp only [hpS, eq_self, implies_true, a1, a2, a3, a4, a5, a6, a7, a8, a9, a10, a11, a12, f3, f6, encS, List.map_nil]) (by simp only [hpS, eq_self, implies_true, a1, a2, a3, a4, a5, a6, a7, a8, a9, a10, a11, a12, f3, f6, encS, List.map_nil])) ?_
 rintro ⟨j, sn, gj⟩ G ⟨hG, hj, hrun⟩
 simp only at hG hj hrun
 subst hG
 simp -dsimp (maxDischargeDepth := 9) only [go_sem, zA, zB, zC, zD, zE, zF, zG, gS]
 refine gif_split (fun q1 => ?_) (fun q1 => ?_)
 ·have q1' : j < it.vars.length := by have := of_decide_eq_true q1; omega
  obtain ⟨x, hx⟩ := list_at q1'
  have hw := wrapN (k := j) (by omega)
  rw [drop_at hx] at hrun
  simp only [pDist] at hrun
  simp -dsimp (maxDischargeDepth := 9) only [go_sem, zA, zB, zC, zD, zE, zF, zG, gS, q1, hx, a1, a2, a3, a4, a5, a6, a7, a8, a9, a10, a11, a12, f3, f6, mget_encS, getD_seen]
  refine need53_ok _ r t c p bt bc bp gj _ (by simp only [hpS, eq_self, implies_true, a1, a2, a3, a4, a5, a6, a7, a8, a9, a10, a11, a12, f3, f6]) _ ?_
  simp -dsimp (maxDischargeDepth := 9) only [go_sem, zA, zB, zC, zD, zE, zF, zG, gS, a1, a2, a3, a4, a5, a6, a7, a8, a9, a10, a11, a12, f3, f6, mput_encS, hw]
  refine roundQ_next (j + 1, sput sn x, gj && !(sn.any fun y => decide (x = y))) _ ⟨rfl, q1', by simp only; rw [← hrun, Bool.and_assoc]⟩ (by simp only; omega) (by simp -dsimp (maxDischargeDepth := 9) only [go_sem, zA, zB, zC, zD, zE, zF, zG, gS]) (leH_hp (by simp only [hpS, eq_self, implies_true, a1, a2, a3, a4, a5, a6, a7, a8, a9, a10, a11, a12, f3, f6]) (by simp only [hpS, eq_self, implies_true, a1, a2, a3, a4, a5, a6, a7, a8, a9, a10, a11, a12, f3, f6]))
 ·rw [drop_end (by have := of_decide_eq_false q1; omega)] at hrun
  simp only [pDist, Bool.and_true] at hrun
  simp -dsimp (maxDischargeDepth := 9) only [go_sem, zA, zB, zC, zD, zE, zF, zG, gS, q1, a1, a2, a3, a4, a5, a6, a7, a8, a9, a10, a11, a12, f3, f6]
  refine newV_hp (fun b61 v61 f61 w61 => ?_)
  simp only [off_cons, off_nil] at f61
  have f3H := hacc.le.free f3.2.2.2.2.2.2.2.2
  simp -dsimp (maxDischargeDepth := 9) only [go_sem, zA, zB, zC, zD, zE, zF, zG, gS, a1, a2, a3, a4, a5, a6, a7, a8, a9, a10, a11, a12, f3, f6, f61]
  refine AccN.appTo (pre := []) (p := pcT types t) (post := pcC ctors c :: rest) hacc (by simp only [hpS, eq_self, implies_true, a1, a2, a3, a4, a5, a6, a7, a8, a9, a10, a11, a12, f3, f6, f61]) (by simp only [hpS, eq_self, implies_true, a1, a2, a3, a4, a5, a6, a7, a8, a9, a10, a11, a12]) (by simp only [List.length_map, List.length_cons, List.length_nil]; omega) (fun t' R' hacc' hn => ?_)
  have f3' := hn b3 (by simp only [hpS, eq_self, implies_true, a1, a2, a3, a4, a5, a6, a7, a8, a9, a10, a11, a12, f3, f6, f61]) f3.2.2.2.2.2.2.2.2
  have f6' := hn b6 (by simp only [hpS, eq_self, implies_true, a1, a2, a3, a4, a5, a6, a7, a8, a9, a10, a11, a12, f3, f6, f61]) f6.2.2.2.2.2.2.2.2.2.2
  have f61' := hn b61 (by simp only [hpS, eq_self, implies_true, a1, a2, a3, a4, a5, a6, a7, a8, a9, a10, a11, a12, f3, f6, f61]) f61.2.2.2.2.2.2.2.2.2.2.2.2
  have hacc' : AccN H0 [r, bt, bc, bp] (pcT (types ++ [it]) t' :: pcC ctors c :: rest) R' := by
   have e : (types ++ [it]).map It.d = types.map It.d ++ [.agg [.int .i64 it.kind, .str it.name, .slice (it.vars.map .str), .slice (it.ctors.map Ct.d), .slice (it.types.map Ty.d), .slice (it.ways.map .bool), .int .i64 it.det, .slice (it.args.map Tm.d), x1, x2, x3, x4, x5, x6, x7, x8, x9, x10, x11, x12]] := by simp [hd]
   simp only [pcT, e]; exact hacc'
  have hone := AccN.one (pre := []) hacc'
  simp -dsimp (maxDischargeDepth := 9) only [go_sem, zA, zB, zC, zD, zE, zF, zG, gS, a1, a2, a3, a4, a5, a6, a7, a8, a9, a10, a11, a12, f3, f6, f61, hone]
  obtain ⟨gg, hgg⟩ : ∃ gg, gg = (gj && (pCts ctors.length mc it.ctors).1) := ⟨_, rfl⟩
  have hend : (g && ((nfind mt it.name).isNone && (pDist [] it.vars && (pCts ctors.length mc it.ctors).1))) = gg := by
   rw [hgg, hrun, hg0]; cases nfind mt it.name <;> simp [Bool.and_assoc]
  rw [hend] at hK
  refine svc_loop (X := Nat × List Cr × A × Heap × List (Ky × Nat) × Bool) (fun y => [(0, .ref r 0), (3, .ref b3 0), (67, .d (.slice (it.ctors.map Ct.d))), (68, .d (.int .i64 it.ctors.length)), (69, .d (.int .i64 y.1))])
   (fun y G => G = hp y.2.2.2.1 [(r, tvar t' y.2.2.1 p bt bc bp y.2.2.2.2.2), (bt, .map (.one .str) (enc (nput mt it.name it.vars.length))), (bc, .map (.row [.str, .int .i64]) (encK (y.2.2.2.2.1))), (bp, .map (.row [.str, .int .i64]) (encK mp)), (b3, .var [.d (.int .i64 it.kind), .d (.str it.name), .d (.slice (it.vars.map .str)), .d (.slice (it.ctors.map Ct.d)), .d (.slice (it.types.map Ty.d)), .d (.slice (it.ways.map .bool)), .d (.int .i64 it.det), .d (.slice (it.args.map Tm.d)), .d x1, .d x2, .d x3, .d x4, .d x5, .d x6, .d x7, .d x8, .d x9, .d x10, .d x11, .d x12])] ∧ AccN H0 [r, bt, bc, bp] (pcT (types ++ [it]) t' :: pcC y.2.1 y.2.2.1 :: rest) y.2.2.2.1 ∧ y.2.2.2.1 b3 = none ∧ y.1 ≤ it.ctors.length ∧ y.2.1 ++ ctsFrom it y.1 (it.ctors.drop y.1) = ctors ++ ctsFrom it 0 it.ctors ∧ y.2.1.length ≤ ctors.length + y.1 ∧ (y.2.2.2.2.2 && (pCts y.2.1.length y.2.2.2.2.1 (it.ctors.drop y.1)).1) = gg ∧ (pCts y.2.1.length y.2.2.2.2.1 (it.ctors.drop y.1)).2 = (pCts ctors.length mc it.ctors).2)
   (fun y => it.ctors.length - y.1) (0, ctors, c, R', mc, gj) _ ⟨rfl, hacc', f3', by simp, by simp, by simp, by simp [hgg], by simp⟩ (by simp -dsimp (maxDischargeDepth := 9) only [go_sem, zA, zB, zC, zD, zE, zF, zG, gS]) (leH_hp (by simp only [hpS, eq_self, implies_true, a1, a2, a3, a4, a5, a6, a7, a8, a9, a10, a11, a12, f3, f6, f61, f6', f61']) (by simp only [hpS, eq_self, implies_true, a1, a2, a3, a4, a5, a6, a7, a8, a9, a10, a11, a12, f3, f6, f61, f6', f61'])) ?_
  rintro ⟨j2, cs, c2, R2, mc2, g2⟩ G ⟨hG, hacc2, f32, hj2, hcs, hcl, hg2, hm2⟩
  simp only at hG hacc2 f32 hj2 hcs hcl hg2 hm2
  subst hG
  simp -dsimp (maxDischargeDepth := 9) only [go_sem, zA, zB, zC, zD, zE, zF, zG, gS]
  refine gif_split (fun q3 => ?_) (fun q3 => ?_)
  ·have q3' : j2 < it.ctors.length := by have := of_decide_eq_true q3; omega
   obtain ⟨q, hq⟩ := list_at q3'
   have hwj := wrapN (k := j2) (by omega)
   rw [drop_at hq] at hcs hg2 hm2
   simp only [ctsFrom] at hcs
   simp only [pCts] at hg2 hm2
   have hkq := mget_encK ⟨q.name, (q.args.length : Int)⟩ mc2
   have hkp := mput_encK ⟨q.name, (q.args.length : Int)⟩ cs.length mc2
   simp only [Ky.d, Ky.cs] at hkq hkp
   simp -dsimp (maxDischargeDepth := 9) only [go_sem, zA, zB, zC, zD, zE, zF, zG, gS, q3, hq, Ct.d, Ct.cs]
   refine newK_hp (fun b10 f10 => ?_)
   simp only [off_cons, off_nil] at f10
   simp -dsimp (maxDischargeDepth := 9) only [go_sem, zA, zB, zC, zD, zE, zF, zG, gS, a1, a2, a3, a4, a5, a6, a7, a8, a9, a10, a11, a12, f3, f32, f10]
   refine newK_hp (fun b11 f11 => ?_)
   simp only [off_cons, off_nil] at f11
   simp -dsimp (maxDischargeDepth := 9) only [go_sem, zA, zB, zC, zD, zE, zF, zG, gS, a1, a2, a3, a4, a5, a6, a7, a8, a9, a10, a11, a12, f3, f32, f10, f11, hkq, Option.isSome_map]
   refine need53_ok _ r t' c2 p bt bc bp g2 _ (by simp only [hpS, eq_self, implies_true, a1, a2, a3, a4, a5, a6, a7, a8, a9, a10, a11, a12, f3, f10, f11]) _ ?_
   simp -dsimp (maxDischargeDepth := 9) only [go_sem, zA, zB, zC, zD, zE, zF, zG, gS, a1, a2, a3, a4, a5, a6, a7, a8, a9, a10, a11, a12, f3, f32, f10, f11]
   refine andK_split (AccN.lenable (pre := [pcT (types ++ [it]) t']) hacc2 rfl) ?_
   rw [show ∀ K, aLen c2 (hp R2 _) K = _ from fun K => AccN.len (pre := [pcT (types ++ [it]) t']) (p := pcC cs c2) hacc2 (by simp only [hpS, eq_self, implies_true, a1, a2, a3, a4, a5, a6, a7, a8, a9, a10, a11, a12, f3, f32, f10, f11])]
   simp -dsimp (maxDischargeDepth := 9) only [go_sem, zA, zB, zC, zD, zE, zF, zG, gS, a1, a2, a3, a4, a5, a6, a7, a8, a9, a10, a11, a12, f3, f32, f10, f11, List.length_map, hkp]
   have hqa := (hit.ctors q (List.mem_of_getElem? hq)).1
   refine clone133 _ (it.vars.map .str) (by simp only [List.length_map]; omega) (of_eq_true (szs_map (sz := 1) (f := D.str) (fun _ => rfl) it.vars)) _ ?_
   simp -dsimp (maxDischargeDepth := 9) only [go_sem, zA, zB, zC, zD, zE, zF, zG, gS, a1, a2, a3, a4, a5, a6, a7, a8, a9, a10, a11, a12, f3, f32, f10, f11]
   refine clone134 _ (q.args.map Ty.d) (by simp only [List.length_map]; omega) (of_eq_true (szs_map (sz := 3) (f := Ty.d) (fun t => t.cs_length) q.args)) _ ?_
   simp -dsimp (maxDischargeDepth := 9) only [go_sem, zA, zB, zC, zD, zE, zF, zG, gS, a1, a2, a3, a4, a5, a6, a7, a8, a9, a10, a11, a12, f3, f32, f10, f11]
   refine newV_hp (fun b121 v121 f121 w121 => ?_)
   simp only [off_cons, off_nil] at f121
   simp -dsimp (maxDischargeDepth := 9) only [go_sem, zA, zB, zC, zD, zE, zF, zG, gS, a1, a2, a3, a4, a5, a6, a7, a8, a9, a10, a11, a12, f3, f32, f10, f11, f121]
   refine AccN.appTo (pre := [pcT (types ++ [it]) t']) (p := pcC cs c2) (post := rest) hacc2 (by simp only [hpS, eq_self, implies_true, a1, a2, a3, a4, a5, a6, a7, a8, a9, a10, a11, a12, f3, f32, f10, f11, f121]) (by simp only [hpS, eq_self, implies_true, a1, a2, a3, a4, a5, a6, a7, a8, a9, a10, a11, a12]) (by simp only [List.length_map, List.length_cons, List.length_nil]; omega) (fun c3 R3 hacc3 hn3 => ?_)
   have f33 := hn3 b3 (by simp only [hpS, eq_self, implies_true, a1, a2, a3, a4, a5, a6, a7, a8, a9, a10, a11, a12, f3, f32, f10, f11, f121]) f32
   have f103 := hn3 b10 (by simp only [hpS, eq_self, implies_true, a1, a2, a3, a4, a5, a6, a7, a8, a9, a10, a11, a12, f3, f32, f10, f11, f121]) f10.2.2.2.2.2.2.2.2.2.2
   have f113 := hn3 b11 (by simp only [hpS, eq_self, implies_true, a1, a2, a3, a4, a5, a6, a7, a8, a9, a10, a11, a12, f3, f32, f10, f11, f121]) f11.2.2.2.2.2.2.2.2.2.2.2.2
   have f1213 := hn3 b121 (by simp only [hpS, eq_self, implies_true, a1, a2, a3, a4, a5, a6, a7, a8, a9, a10, a11, a12, f3, f32, f10, f11, f121]) f121.2.2.2.2.2.2.2.2.2.2.2.2.2.2
   have hacc3 : AccN H0 [r, bt, bc, bp] (pcT (types ++ [it]) t' :: pcC (cs ++ [⟨⟨q.name, q.args.length⟩, it.name, it.vars, q.args, j2⟩]) c3 :: rest) R3 := by
    simp only [pcC, List.map_append, List.map_cons, List.map_nil, Cr.d, Cr.cs]; exact hacc3
   have hone3 := AccN.one (pre := [pcT (types ++ [it]) t']) hacc3
   simp -dsimp (maxDischargeDepth := 9) only [go_sem, zA, zB, zC, zD, zE, zF, zG, gS, a1, a2, a3, a4, a5, a6, a7, a8, a9, a10, a11, a12, f3, f32, f10, f11, f121, hone3, hwj]
   refine roundQ_next (j2 + 1, cs ++ [⟨⟨q.name, q.args.length⟩, it.name, it.vars, q.args, j2⟩], c3, R3, kput mc2 ⟨q.name, q.args.length⟩ cs.length, g2 && !(kfind mc2 ⟨q.name, q.args.length⟩).isSome) _ ⟨rfl, hacc3, f33, q3', by rw [← hcs]; simp, by simp only [List.length_append, List.length_cons, List.length_nil]; omega, by rw [← hg2]; simp only [List.length_append, List.length_cons, List.length_nil]; cases kfind mc2 ⟨q.name, q.args.length⟩ <;> simp, by rw [← hm2]; simp only [List.length_append, List.length_cons, List.length_nil]⟩ (by simp only; omega) (by simp -dsimp (maxDischargeDepth := 9) only [go_sem, zA, zB, zC, zD, zE, zF, zG, gS]) (leH_hp (by simp only [hpS, eq_self, implies_true, a1, a2, a3, a4, a5, a6, a7, a8, a9, a10, a11, a12, f3, f10, f11, f121, f33, f103, f113, f1213]) (by simp only [hpS, eq_self, implies_true, a1, a2, a3, a4, a5, a6, a7, a8, a9, a10, a11, a12, f3, f10, f11, f121, f33, f103, f113, f1213]))
  ·rw [drop_end (by have := of_decide_eq_false q3; omega)] at hcs hg2 hm2
   simp only [ctsFrom, List.append_nil] at hcs
   simp only [pCts, Bool.and_true] at hg2 hm2
   subst hcs hg2 hm2
   simp -dsimp (maxDischargeDepth := 9) only [go_sem, zA, zB, zC, zD, zE, zF, zG, gS, q3, a1, a2, a3, a4, a5, a6, a7, a8, a9, a10, a11, a12, f3, f32]
   exact retW_drop (G := hp R2 [(r, tvar t' c2 p bt bc bp g2), (bt, .map (.one .str) (enc (nput mt it.name it.vars.length))), (bc, .map (.row [.str, .int .i64]) (encK ((pCts ctors.length mc it.ctors).2))), (bp, .map (.row [.str, .int .i64]) (encK mp))]) (leH_hp (by simp only [hpS, eq_self, implies_true, a1, a2, a3, a4, a5, a6, a7, a8, a9, a10, a11, a12, f3, f32]) (by simp only [hpS, eq_self, implies_true, a1, a2, a3, a4, a5, a6, a7, a8, a9, a10, a11, a12, f3, f32])) (retW_is (hK t' c2 R2 hacc2))
end Go.Aug

/- The program's names: predicates are declared. -/
namespace Go.Aug
open Nat renaming reduceBEq → zA, reduceLT → zB, reduceAdd → zC, reduceSub → zD, reduceMul → zE, reduceLeDiff → zF
open Int renaming reduceLE → zG
open Go.Proofs
set_option maxRecDepth 100000
set_option linter.unusedSimpArgs false
attribute [local irreducible] hid andK letA onSome onVar onArr arrOnly onInt onBool onFunc onTup idxA ldV ldD addO appTo fillL slA srcK nilQ retW gif sgd sguard svc sops sdops sagain aopO aLoad aStore aBin aUn aConv aLen aIndexAddr aIndex aIndexAddrS aIndexS aSlice aAppend aBuild aBuildSlice aMakeSlice aField aFieldOf aCallOp deepK deepL frzM putE newK newV growV ACall roundQ thenQ inBlockQ sret cnd szs nilC onMap onRow aLookup aMapUpdate aMakeMap
attribute [local go_sem] Int.natCast_zero
/-- The seat's environment; a predicate that is built keeps its nil rows. -/
def seatP (e : EbG) : Env := { seatV e with nz := fun t => t == 36 }
@[go_sem] theorem seatP_pred {e : EbG} : (seatP e).nz 36 = true := Eq.trans rfl rfl
@[go_sem] theorem seatP_key {e : EbG} : (seatP e).nz 31 = false := Eq.trans rfl rfl
theorem toP {e : EbG} {f : FuncId} {args : List A} {H : Heap} {K : A → Heap → Prop} (h : ACall Tryd.prog (seatV e) f args H K) : ACall Tryd.prog (seatP e) f args H K := ACall.nz h
/-- The key that a predicate's item declares. -/
def pKey (it : It) : Ky := ⟨it.name, it.types.length⟩
def rawN : D := .raw (.slice none 0 0)
set_option maxHeartbeats 16000000 in
theorem declarePred96_ok {eb : EbG} (it : It) (hit : it.small) {H0 R : Heap} {r bt bc bp : Nat} (h4 : Four r bt bc bp) {q1 q2 : Pc} {rs : List D} {t c p : A} {rest : List Pc} (hacc : AccN H0 [r, bt, bc, bp] (q1 :: q2 :: ⟨36, 5, rs, p⟩ :: rest) R)
  (hrs : rs.length ≤ 1099511627776) (mt : List (ByteArray × Nat)) (mc mp : List (Ky × Nat)) (g : Bool) (K : A → Heap → Prop)
  (hK : ∀ p' R', AccN H0 [r, bt, bc, bp] (q1 :: q2 :: ⟨36, 5, rs ++ [.agg [.str it.name, .int .i64 it.types.length, .slice (it.types.map Ty.d), rawN, rawN]], p'⟩ :: rest) R' →
   K (.tup []) (hp R' [(r, tvar t c p' bt bc bp (g && (kfind mp (pKey it)).isNone)), (bt, .map (.one .str) (enc mt)), (bc, .map (.row [.str, .int .i64]) (encK mc)), (bp, .map (.row [.str, .int .i64]) (encK (kput mp (pKey it) rs.length)))])) :
  ACall Tryd.prog (seatP eb) 96 [.ref r 0, .d it.d] (hp R [(r, tvar t c p bt bc bp g), (bt, .map (.one .str) (enc mt)), (bc, .map (.row [.str, .int .i64]) (encK mc)), (bp, .map (.row [.str, .int .i64]) (encK (mp)))]) K := by
 obtain ⟨a1, a2, a3, a4, a5, a6, a7, a8, a9, a10, a11, a12⟩ := h4
 obtain ⟨x1, x2, x3, x4, x5, x6, x7, x8, x9, x10, x11, x12, hbody, hd⟩ := it.opn
 have htl := hit.types.1
 have hkq := mget_encK (pKey it) mp
 have hkp := mput_encK (pKey it) rs.length mp
 simp only [pKey, Ky.d, Ky.cs] at hkq hkp
 simp only [pKey] at hK
 rw [hd]
 refine ACall.by mixed fn96 (by simp) ?_
 conv in s96 => cbv
 refine svc_start ?_
 simp -dsimp (maxDischargeDepth := 9) only [go_sem, zA, zB, zC, zD, zE, zF, zG, gS]
 refine newK_hp (fun b3 f3 => ?_)
 simp only [off_cons, off_nil] at f3
 simp -dsimp (maxDischargeDepth := 9) only [go_sem, zA, zB, zC, zD, zE, zF, zG, gS, a1, a2, a3, a4, a5, a6, a7, a8, a9, a10, a11, a12, f3]
 refine newK_hp (fun b4 f4 => ?_)
 simp only [off_cons, off_nil] at f4
 simp -dsimp (maxDischargeDepth := 9) only [go_sem, zA, zB, zC, zD, zE, zF, zG, gS, a1, a2, a3, a4, a5, a6, a7, a8, a9, a10, a11, a12, f3, f4, hkq, Option.isSome_map]
 refine toP (need53_ok _ r t c p bt bc bp g _ (by simp only [hpS, eq_self, implies_true, a1, a2, a3, a4, a5, a6, a7, a8, a9, a10, a11, a12, f3, f4]) _ ?_)
 simp -dsimp (maxDischargeDepth := 9) only [go_sem, zA, zB, zC, zD, zE, zF, zG, gS, a1, a2, a3, a4, a5, a6, a7, a8, a9, a10, a11, a12, f3, f4]
 refine andK_split (AccN.lenable (pre := [q1, q2]) hacc rfl) ?_
 rw [show ∀ K, aLen p (hp R _) K = _ from fun K => AccN.len (pre := [q1, q2]) (p := ⟨36, 5, rs, p⟩) hacc (by simp only [hpS, eq_self, implies_true, a1, a2, a3, a4, a5, a6, a7, a8, a9, a10, a11, a12, f3, f4])]
 simp -dsimp (maxDischargeDepth := 9) only [go_sem, zA, zB, zC, zD, zE, zF, zG, gS, a1, a2, a3, a4, a5, a6, a7, a8, a9, a10, a11, a12, f3, f4, hkp]
 refine toP (clone134 _ (it.types.map Ty.d) (by simp only [List.length_map]; omega) (of_eq_true (szs_map (sz := 3) (f := Ty.d) (fun t => t.cs_length) it.types)) _ ?_)
 simp -dsimp (maxDischargeDepth := 9) only [go_sem, zA, zB, zC, zD, zE, zF, zG, gS, a1, a2, a3, a4, a5, a6, a7, a8, a9, a10, a11, a12, f3, f4]
 refine newV_hp (fun b48 v48 f48 w48 => ?_)
 simp only [off_cons, off_nil] at f48
 simp -dsimp (maxDischargeDepth := 9) only [go_sem, zA, zB, zC, zD, zE, zF, zG, gS, a1, a2, a3, a4, a5, a6, a7, a8, a9, a10, a11, a12, f3, f4, f48]
 refine AccN.appTo (pre := [q1, q2]) (p := ⟨36, 5, rs, p⟩) (post := rest) hacc (by simp only [hpS, eq_self, implies_true, a1, a2, a3, a4, a5, a6, a7, a8, a9, a10, a11, a12, f3, f4, f48]) (by simp only [hpS, eq_self, implies_true, a1, a2, a3, a4, a5, a6, a7, a8, a9, a10, a11, a12]) (by simp only [List.length_cons, List.length_nil]; omega) (fun p' R' hacc' hn => ?_)
 have f3' := hn b3 (by simp only [hpS, eq_self, implies_true, a1, a2, a3, a4, a5, a6, a7, a8, a9, a10, a11, a12, f3, f4, f48]) f3.2.2.2.2.2.2.2.2
 have f4' := hn b4 (by simp only [hpS, eq_self, implies_true, a1, a2, a3, a4, a5, a6, a7, a8, a9, a10, a11, a12, f3, f4, f48]) f4.2.2.2.2.2.2.2.2.2.2
 have f48' := hn b48 (by simp only [hpS, eq_self, implies_true, a1, a2, a3, a4, a5, a6, a7, a8, a9, a10, a11, a12, f3, f4, f48]) f48.2.2.2.2.2.2.2.2.2.2.2.2
 have hone := AccN.one (pre := [q1, q2]) hacc'
 simp -dsimp (maxDischargeDepth := 9) only [go_sem, zA, zB, zC, zD, zE, zF, zG, gS, a1, a2, a3, a4, a5, a6, a7, a8, a9, a10, a11, a12, f3, f4, f48, hone]
 have e : (kfind mp ⟨it.name, it.types.length⟩).isNone = !(kfind mp ⟨it.name, it.types.length⟩).isSome := by cases kfind mp ⟨it.name, it.types.length⟩ <;> rfl
 rw [e] at hK
 exact retW_drop (G := hp R' [(r, tvar t c p' bt bc bp (g && !(kfind mp ⟨it.name, it.types.length⟩).isSome)), (bt, .map (.one .str) (enc mt)), (bc, .map (.row [.str, .int .i64]) (encK mc)), (bp, .map (.row [.str, .int .i64]) (encK (kput mp ⟨it.name, it.types.length⟩ rs.length)))]) (leH_hp (by simp only [hpS, eq_self, implies_true, a1, a2, a3, a4, a5, a6, a7, a8, a9, a10, a11, a12, f3, f4, f48, f3', f4', f48']) (by simp only [hpS, eq_self, implies_true, a1, a2, a3, a4, a5, a6, a7, a8, a9, a10, a11, a12, f3, f4, f48, f3', f4', f48'])) (retW_is (hK p' R' hacc'))
end Go.Aug

/- The program's names: items are declared. -/
namespace Go.Aug
open Nat renaming reduceBEq → zA, reduceLT → zB, reduceAdd → zC, reduceSub → zD, reduceMul → zE, reduceLeDiff → zF
open Int renaming reduceLE → zG
open Go.Proofs
set_option maxRecDepth 100000
set_option linter.unusedSimpArgs false
attribute [local irreducible] hid andK letA onSome onVar onArr arrOnly onInt onBool onFunc onTup idxA ldV ldD addO appTo fillL slA srcK nilQ retW gif sgd sguard svc sops sdops sagain aopO aLoad aStore aBin aUn aConv aLen aIndexAddr aIndex aIndexAddrS aIndexS aSlice aAppend aBuild aBuildSlice aMakeSlice aField aFieldOf aCallOp deepK deepL frzM putE newK newV growV ACall roundQ thenQ inBlockQ sret cnd szs nilC onMap onRow aLookup aMapUpdate aMakeMap
attribute [local go_sem] Int.natCast_zero
/-- A table while items are declared. -/
structure DS where
 types : List It
 ctors : List Cr
 rs : List D
 mt : List (ByteArray × Nat)
 mc : List (Ky × Nat)
 mp : List (Ky × Nat)
 good : Bool
abbrev DS.hp (s : DS) (R : Heap) (r bt bc bp : Nat) (t c p : A) : Heap := Go.Aug.hp R [(r, tvar t c p bt bc bp s.good), (bt, .map (.one .str) (enc s.mt)), (bc, .map (.row [.str, .int .i64]) (encK s.mc)), (bp, .map (.row [.str, .int .i64]) (encK s.mp))]
abbrev DS.ps (s : DS) (t c p : A) : List Pc := [pcT s.types t, pcC s.ctors c, ⟨36, 5, s.rs, p⟩]
def dstep (s : DS) (it : It) : DS :=
 if it.kind = 1 then ⟨s.types ++ [it], s.ctors ++ ctsFrom it 0 it.ctors, s.rs, nput s.mt it.name it.vars.length, (pCts s.ctors.length s.mc it.ctors).2, s.mp, s.good && ((nfind s.mt it.name).isNone && (pDist [] it.vars && (pCts s.ctors.length s.mc it.ctors).1))⟩
 else if it.kind = 2 then ⟨s.types, s.ctors, s.rs ++ [.agg [.str it.name, .int .i64 it.types.length, .slice (it.types.map Ty.d), rawN, rawN]], s.mt, s.mc, kput s.mp (pKey it) s.rs.length, s.good && (kfind s.mp (pKey it)).isNone⟩
 else s
structure DS.few (s : DS) : Prop where
 types : s.types.length ≤ 1048576
 ctors : s.ctors.length ≤ 1099511627776
 rs : s.rs.length ≤ 1099511627776
set_option maxHeartbeats 4000000 in
theorem declare51_ok {eb : EbG} (it : It) (hit : it.small) {H0 R : Heap} {r bt bc bp : Nat} (h4 : Four r bt bc bp) (s : DS) (hs : s.few) {t c p : A} (hacc : AccN H0 [r, bt, bc, bp] (s.ps t c p) R) (K : A → Heap → Prop)
  (hK : ∀ t' c' p' R', AccN H0 [r, bt, bc, bp] ((dstep s it).ps t' c' p') R' → K (.tup []) ((dstep s it).hp R' r bt bc bp t' c' p')) :
  ACall Tryd.prog (seatP eb) 51 [.ref r 0, .d it.d] (s.hp R r bt bc bp t c p) K := by
 have h4' := h4
 obtain ⟨a1, a2, a3, a4, a5, a6, a7, a8, a9, a10, a11, a12⟩ := h4'
 obtain ⟨x1, x2, x3, x4, x5, x6, x7, x8, x9, x10, x11, x12, hbody, hd⟩ := it.opn
 have c95 := declareType95_ok (eb := eb) it hit (R := R) (p := p) h4 hacc hs.types hs.ctors s.mt s.mc s.mp s.good
 have c96 := declarePred96_ok (eb := eb) it hit (R := R) (t := t) (c := c) h4 hacc hs.rs s.mt s.mc s.mp s.good
 rw [hd] at c95 c96
 rw [hd]
 refine ACall.by mixed fn51 (by simp) ?_
 conv in s51 => cbv
 refine svc_start ?_
 simp -dsimp (maxDischargeDepth := 9) only [go_sem, zA, zB, zC, zD, zE, zF, zG, gS]
 refine newK_hp (fun b3 f3 => ?_)
 simp only [off_cons, off_nil] at f3
 simp -dsimp (maxDischargeDepth := 9) only [go_sem, zA, zB, zC, zD, zE, zF, zG, gS, a1, a2, a3, a4, a5, a6, a7, a8, a9, a10, a11, a12, f3]
 refine gif_split (fun g1 => ?_) (fun g1 => ?_)
 ·have e1 : it.kind = 1 := of_decide_eq_true g1
  rw [dstep, if_pos e1] at hK
  simp -dsimp (maxDischargeDepth := 9) only [go_sem, zA, zB, zC, zD, zE, zF, zG, gS, g1, a1, a2, a3, a4, a5, a6, a7, a8, a9, a10, a11, a12, f3]
  refine toP ((c95 _ (fun t' c' R' hacc' => ?_)).le (leH_hp (by simp only [hpS, eq_self, implies_true, a1, a2, a3, a4, a5, a6, a7, a8, a9, a10, a11, a12, f3]) (by simp only [hpS, eq_self, implies_true, a1, a2, a3, a4, a5, a6, a7, a8, a9, a10, a11, a12, f3])))
  simp -dsimp (maxDischargeDepth := 9) only [go_sem, zA, zB, zC, zD, zE, zF, zG, gS]
  exact retW_is (hK t' c' p R' hacc')
 ·have e1 : it.kind ≠ 1 := of_decide_eq_false g1
  rw [dstep, if_neg e1] at hK
  simp -dsimp (maxDischargeDepth := 9) only [go_sem, zA, zB, zC, zD, zE, zF, zG, gS, g1, a1, a2, a3, a4, a5, a6, a7, a8, a9, a10, a11, a12, f3]
  refine gif_split (fun g2 => ?_) (fun g2 => ?_)
  ·have e2 : it.kind = 2 := of_decide_eq_true g2
   rw [if_pos e2] at hK
   simp -dsimp (maxDischargeDepth := 9) only [go_sem, zA, zB, zC, zD, zE, zF, zG, gS, g2, a1, a2, a3, a4, a5, a6, a7, a8, a9, a10, a11, a12, f3]
   refine (c96 _ (fun p' R' hacc' => ?_)).le (leH_hp (by simp only [hpS, eq_self, implies_true, a1, a2, a3, a4, a5, a6, a7, a8, a9, a10, a11, a12, f3]) (by simp only [hpS, eq_self, implies_true, a1, a2, a3, a4, a5, a6, a7, a8, a9, a10, a11, a12, f3]))
   simp -dsimp (maxDischargeDepth := 9) only [go_sem, zA, zB, zC, zD, zE, zF, zG, gS]
   exact retW_is (hK t c p' R' hacc')
  ·have e2 : it.kind ≠ 2 := of_decide_eq_false g2
   rw [if_neg e2] at hK
   simp -dsimp (maxDischargeDepth := 9) only [go_sem, zA, zB, zC, zD, zE, zF, zG, gS, g2, a1, a2, a3, a4, a5, a6, a7, a8, a9, a10, a11, a12, f3]
   exact retW_drop (G := s.hp R r bt bc bp t c p) (leH_hp (by simp only [hpS, eq_self, implies_true, a1, a2, a3, a4, a5, a6, a7, a8, a9, a10, a11, a12, f3]) (by simp only [hpS, eq_self, implies_true, a1, a2, a3, a4, a5, a6, a7, a8, a9, a10, a11, a12, f3])) (retW_is (hK t c p R hacc))
end Go.Aug

/- The program's names: a predicate's mode. -/
namespace Go.Aug
open Nat renaming reduceBEq → zA, reduceLT → zB, reduceAdd → zC, reduceSub → zD, reduceMul → zE, reduceLeDiff → zF
open Int renaming reduceLE → zG
open Go.Proofs
set_option maxRecDepth 100000
set_option linter.unusedSimpArgs false
attribute [local irreducible] hid andK letA onSome onVar onArr arrOnly onInt onBool onFunc onTup idxA ldV ldD addO appTo fillL slA srcK nilQ retW gif sgd sguard svc sops sdops sagain aopO aLoad aStore aBin aUn aConv aLen aIndexAddr aIndex aIndexAddrS aIndexS aSlice aAppend aBuild aBuildSlice aMakeSlice aField aFieldOf aCallOp deepK deepL frzM putE newK newV growV ACall roundQ thenQ inBlockQ sret cnd szs nilC onMap onRow aLookup aMapUpdate aMakeMap
attribute [local go_sem] Int.natCast_zero
theorem eq84_ok {eb : EbG} (l1 l2 : List Bool) (h1 : l1.length ≤ 1048576) (H : Heap) (K : A → Heap → Prop) (hK : K (.d (.bool (decide (l1 = l2)))) H) :
  ACall Tryd.prog (seatV eb) 84 [.d (.slice (l1.map .bool)), .d (.slice (l2.map .bool))] H K := by
 refine ACall.by mixed fn84 (by simp) ?_
 conv in s84 => cbv
 refine svc_start ?_
 simp -dsimp (maxDischargeDepth := 9) only [go_sem, zA, zB, zC, zD, zE, zF, zG, gS]
 refine gif_split (fun g1 => ?_) (fun g1 => ?_)
 ·have e : l1 ≠ l2 := fun e => by have := of_decide_eq_false ((Bool.not_eq_true' _).mp g1); rw [e] at this; exact this rfl
  rw [decide_eq_false e] at hK
  simp -dsimp (maxDischargeDepth := 9) only [go_sem, zA, zB, zC, zD, zE, zF, zG, gS, g1]
  exact retW_is hK
 ·have e : l1.length = l2.length := by
   have := of_decide_eq_true ((Bool.not_eq_false' _).mp g1); exact_mod_cast this
  simp -dsimp (maxDischargeDepth := 9) only [go_sem, zA, zB, zC, zD, zE, zF, zG, gS, g1]
  refine svc_loop (X := Nat) (fun y => [(0, .d (.slice (l1.map .bool))), (1, .d (.slice (l2.map .bool))), (12, .d (.int .i64 l1.length)), (13, .d (.int .i64 y))])
   (fun y G => G = H ∧ y ≤ l1.length ∧ decide (l1.drop y = l2.drop y) = decide (l1 = l2)) (fun y => l1.length - y) 0 _ ⟨rfl, Nat.zero_le _, rfl⟩ (by simp -dsimp (maxDischargeDepth := 9) only [go_sem, zA, zB, zC, zD, zE, zF, zG, gS]) (.refl _) ?_
  rintro j G ⟨hG, hj, hrun⟩
  subst hG
  simp -dsimp (maxDischargeDepth := 9) only [go_sem, zA, zB, zC, zD, zE, zF, zG, gS]
  refine gif_split (fun q1 => ?_) (fun q1 => ?_)
  ·have q1' : j < l1.length := by have := of_decide_eq_true q1; omega
   obtain ⟨x, hx⟩ := list_at q1'
   obtain ⟨z, hz⟩ := list_at (show j < l2.length by omega)
   have hw := wrapN (k := j) (by omega)
   rw [drop_at hx, drop_at hz] at hrun
   simp -dsimp (maxDischargeDepth := 9) only [go_sem, zA, zB, zC, zD, zE, zF, zG, gS, q1, hx, hz]
   refine gif_split (fun q2 => ?_) (fun q2 => ?_)
   ·have e : x ≠ z := fun e => by rw [e] at q2; simp at q2
    rw [← hrun, decide_eq_false (fun h => e (List.cons.inj h).1)] at hK
    simp -dsimp (maxDischargeDepth := 9) only [go_sem, zA, zB, zC, zD, zE, zF, zG, gS]
    exact retW_is hK
   ·have e : x = z := by simpa using q2
    simp -dsimp (maxDischargeDepth := 9) only [go_sem, zA, zB, zC, zD, zE, zF, zG, gS, hw]
    refine roundQ_next (j + 1) G ⟨rfl, q1', by rw [← hrun, e]; simp⟩ (by omega) (by simp -dsimp (maxDischargeDepth := 9) only [go_sem, zA, zB, zC, zD, zE, zF, zG, gS]) (.refl _)
  ·rw [List.drop_eq_nil_of_le (by have := of_decide_eq_false q1; omega), List.drop_eq_nil_of_le (by have := of_decide_eq_false q1; omega)] at hrun
   rw [← hrun] at hK
   simp -dsimp (maxDischargeDepth := 9) only [go_sem, zA, zB, zC, zD, zE, zF, zG, gS, q1]
   exact retW_is hK
/-- A row that one has: nil, or a block of one's own. -/
def RowAt (H : Heap) (E : TypeId) (sz : Nat) (ds : List D) (a : A) : Prop := (ds = [] ∧ a = .nils) ∨ ∃ b v, a = .own b v ∧ v.ownBlock = some b ∧ H b = some (.arr E sz v ds)
theorem index82_ok {eb : EbG} (l : List Md) (hl : l.length ≤ 1099511627776) (a : A) (f : FuncId) (caps : List A) (hf : callable Tryd.prog f = true) (p : Md → Bool) (H : Heap) (hrow : RowAt H 117 2 (l.map Md.d) a)
  (hc : ∀ x ∈ l, ∀ K : A → Heap → Prop, K (.d (.bool (p x))) H → ACall Tryd.prog (seatV eb) f (.d x.d :: caps) H K) (K : A → Heap → Prop) (hK : K (.d (.int .i64 (idxI (fidx p l)))) H) :
  ACall Tryd.prog (seatV eb) 82 [a, .func f caps] H K := by
 refine ACall.by mixed fn82 (by simp) ?_
 conv in s82 => cbv
 refine svc_start ?_
 rcases hrow with ⟨h1, rfl⟩ | ⟨b, v, rfl, hv, hb⟩
 ·have : l = [] := by simpa using h1
  subst this
  simp -dsimp (maxDischargeDepth := 9) only [go_sem, zA, zB, zC, zD, zE, zF, zG, gS]
  refine svc_loop (X := Unit) (fun _ => [(0, .nils), (1, .func f caps), (7, .d (.int .i64 0)), (8, .d (.int .i64 0))]) (fun _ G => G = H) (fun _ => 0) () _ rfl (by simp -dsimp (maxDischargeDepth := 9) only [go_sem, zA, zB, zC, zD, zE, zF, zG, gS]) (.refl _) ?_
  rintro _ G hG
  subst hG
  have q : decide ((0 : Int) < 0) = false := rfl
  simp -dsimp (maxDischargeDepth := 9) only [go_sem, zA, zB, zC, zD, zE, zF, zG, gS, q]
  exact retW_is hK
 ·simp -dsimp (maxDischargeDepth := 9) only [go_sem, zA, zB, zC, zD, zE, zF, zG, gS, hb]
  refine svc_loop (X := Nat) (fun k => [(0, .own b v), (1, .func f caps), (7, .d (.int .i64 l.length)), (8, .d (.int .i64 k))])
   (fun k G => G = H ∧ k ≤ l.length ∧ (fidx p (l.drop k)).map (· + k) = fidx p l) (fun k => l.length - k) 0 _ ⟨rfl, by omega, by simp⟩ (by simp -dsimp (maxDischargeDepth := 9) only [go_sem, zA, zB, zC, zD, zE, zF, zG, gS]) (.refl _) ?_
  rintro k G ⟨hG, hk, hrun⟩
  subst hG
  simp -dsimp (maxDischargeDepth := 9) only [go_sem, zA, zB, zC, zD, zE, zF, zG, gS]
  refine gif_split (fun g1 => ?_) (fun g1 => ?_)
  ·have g1' : k < l.length := by have := of_decide_eq_true g1; omega
   obtain ⟨x, hx⟩ := list_at g1'
   have hwj := wrapN (k := k) (by omega)
   rw [drop_at hx] at hrun
   simp only [fidx] at hrun
   have hcx := hc x (List.mem_of_getElem? hx)
   obtain ⟨ws, dt⟩ := x
   simp -dsimp (maxDischargeDepth := 9) only [go_sem, zA, zB, zC, zD, zE, zF, zG, gS, g1, hx, hb, g1', Md.d, Md.cs, hf, List.cons_append, List.nil_append]
   refine hcx _ ?_
   simp -dsimp (maxDischargeDepth := 9) only [go_sem, zA, zB, zC, zD, zE, zF, zG, gS]
   refine gif_split (fun g2 => ?_) (fun g2 => ?_)
   ·simp only [if_pos g2, Option.map_some, Nat.zero_add] at hrun
    rw [← hrun] at hK
    simp -dsimp (maxDischargeDepth := 9) only [go_sem, zA, zB, zC, zD, zE, zF, zG, gS, g2]
    exact retW_is hK
   ·simp only [g2, Bool.false_eq_true, if_false, Option.map_map] at hrun
    simp -dsimp (maxDischargeDepth := 9) only [go_sem, zA, zB, zC, zD, zE, zF, zG, gS, g2, hwj]
    refine roundQ_next (k + 1) G ⟨rfl, g1', by rw [← hrun]; congr 1; funext n; simp only [Function.comp]; omega⟩ (by omega) (by simp -dsimp (maxDischargeDepth := 9) only [go_sem, zA, zB, zC, zD, zE, zF, zG, gS]) (.refl _)
  ·rw [drop_end (by have := of_decide_eq_false g1; omega)] at hrun
   simp only [fidx, Option.map_none] at hrun
   rw [← hrun] at hK
   simp -dsimp (maxDischargeDepth := 9) only [go_sem, zA, zB, zC, zD, zE, zF, zG, gS, g1]
   exact retW_is hK
theorem mode83_ok {eb : EbG} (m : Md) (hm : m.ways.length ≤ 1048576) (ins : List Bool) (H : Heap) (b : Nat) (hb : H b = some (.var [.d (.slice (ins.map .bool))])) (K : A → Heap → Prop) (hK : K (.d (.bool (decide (m.ways = ins)))) H) :
  ACall Tryd.prog (seatV eb) 83 [.d m.d, .ref b 0] H K := by
 obtain ⟨ws, dt⟩ := m
 refine ACall.hp_start ?_
 refine ACall.by mixed fn83 (by simp) ?_
 conv in s83 => cbv
 refine svc_start ?_
 simp -dsimp (maxDischargeDepth := 9) only [go_sem, zA, zB, zC, zD, zE, zF, zG, gS, Md.d, Md.cs]
 refine newK_hp (fun b2 f2 => ?_)
 simp only [off_cons, off_nil] at f2
 have hb2 := eqn_some hb f2
 simp -dsimp (maxDischargeDepth := 9) only [go_sem, zA, zB, zC, zD, zE, zF, zG, gS, f2, hb2, hb]
 refine eq84_ok ws ins hm _ _ ?_
 simp -dsimp (maxDischargeDepth := 9) only [go_sem, zA, zB, zC, zD, zE, zF, zG, gS, f2]
 exact retW_drop (G := H) (leH_hp0 (by simp only [hpS, eq_self, implies_true, f2])) (retW_is hK)
theorem RowAt.up {H G : Heap} {E : TypeId} {sz : Nat} {ds : List D} {a : A} (h : RowAt H E sz ds a) (hl : LeH H G) : RowAt G E sz ds a :=
 h.imp id fun ⟨b, v, e1, e2, e3⟩ => ⟨b, v, e1, e2, hl b _ e3⟩
/-- How a cell that holds a row of one's own is kept. -/
def cellD : A → D
 | .own _ v => .raw v
 | _ => .raw (.slice none 0 0)
theorem RowAt.re {H : Heap} {E : TypeId} {sz : Nat} {ds : List D} {a : A} (h : RowAt H E sz ds a) : ReA (.d (cellD a)) a := by
 rcases h with ⟨_, rfl⟩ | ⟨b, v, rfl, hv, _⟩
 ·exact ReA.rawNil
 ·exact ReA.raw hv
theorem mode38_ok {eb : EbG} (n : ByteArray) (ar : Int) (ts : List D) (ms : List Md) (hms : ms.length ≤ 1099511627776) (hws : ∀ m ∈ ms, m.ways.length ≤ 1048576) (ma ca : A) (es : List D) (ins : List Bool) (H : Heap) (h1 : RowAt H 117 2 (ms.map Md.d) ma) (h2 : RowAt H 3 1 es ca)
  (K : A → Heap → Prop) (hK : K (.d (.int .i64 (idxI (fidx (fun m => decide (m.ways = ins)) ms)))) H) :
  ACall Tryd.prog (seatV eb) 38 [.d (.agg [.str n, .int .i64 ar, .slice ts, cellD ma, cellD ca]), .d (.slice (ins.map .bool))] H K := by
 refine ACall.re (args' := [.agg [.d (.str n), .d (.int .i64 ar), .d (.slice ts), ma, ca], .d (.slice (ins.map .bool))]) ?_ rfl ?_
 case refine_2 =>
  intro j hj hj'
  match j, hj, hj' with
  | 0, _, _ =>
   refine ReA.agg rfl fun j hj hj' => ?_
   match j, hj, hj' with
   | 0, _, _ => exact .refl _
   | 1, _, _ => exact .refl _
   | 2, _, _ => exact .refl _
   | 3, _, _ => exact h1.re
   | 4, _, _ => exact h2.re
  | 1, _, _ => exact .refl _
 refine ACall.hp_start ?_
 refine ACall.by mixed fn38 (by simp) ?_
 conv in s38 => cbv
 refine svc_start ?_
 simp -dsimp (maxDischargeDepth := 9) only [go_sem, zA, zB, zC, zD, zE, zF, zG, gS]
 refine newK_hp (fun b2 f2 => ?_)
 simp only [off_cons, off_nil] at f2
 simp -dsimp (maxDischargeDepth := 9) only [go_sem, zA, zB, zC, zD, zE, zF, zG, gS, f2]
 refine newK_hp (fun b3 f3 => ?_)
 simp only [off_cons, off_nil] at f3
 simp -dsimp (maxDischargeDepth := 9) only [go_sem, zA, zB, zC, zD, zE, zF, zG, gS, f2, f3]
 refine index82_ok ms hms ma _ _ (by kernel_rfl) (fun m => decide (m.ways = ins)) _ (h1.up (leH_hp0 (by simp only [hpS, eq_self, implies_true, f2, f3]))) (fun x hx K hK => mode83_ok x (hws x hx) ins _ b3 (by simp only [hpS, eq_self, implies_true, f2, f3]) K hK) _ ?_
 simp -dsimp (maxDischargeDepth := 9) only [go_sem, zA, zB, zC, zD, zE, zF, zG, gS, f2, f3]
 exact retW_drop (G := H) (leH_hp0 (by simp only [hpS, eq_self, implies_true, f2, f3])) (retW_is hK)
end Go.Aug

/- The program's names: the declared predicate of a key. -/
namespace Go.Aug
open Nat renaming reduceBEq → zA, reduceLT → zB, reduceAdd → zC, reduceSub → zD, reduceMul → zE, reduceLeDiff → zF
open Int renaming reduceLE → zG
open Go.Proofs
set_option maxRecDepth 100000
set_option linter.unusedSimpArgs false
attribute [local irreducible] hid andK letA onSome onVar onArr arrOnly onInt onBool onFunc onTup idxA ldV ldD addO appTo fillL slA srcK nilQ retW gif sgd sguard svc sops sdops sagain aopO aLoad aStore aBin aUn aConv aLen aIndexAddr aIndex aIndexAddrS aIndexS aSlice aAppend aBuild aBuildSlice aMakeSlice aField aFieldOf aCallOp deepK deepL frzM putE newK newV growV ACall roundQ thenQ inBlockQ sret cnd szs nilC onMap onRow aLookup aMapUpdate aMakeMap
attribute [local go_sem] Int.natCast_zero
theorem eqn_objs {H : Heap} {a b : Nat} {x y : AObj} (ha : H a = some x) (hb : H b = some y) (h : x ≠ y) : eqn a b = false := by
 refine eqn_ne fun e => h ?_
 subst e
 rw [ha] at hb
 exact Option.some.inj hb
set_option maxHeartbeats 4000000 in
theorem own98_ok {eb : EbG} (k : Ky) (H : Heap) (r : Nat) (t c : A) (bt bc bp bP : Nat) (vP : Value) (rs : List D) (mp : List (Ky × Nat)) (g : Bool) (h : H r = some (tvar t c (.own bP vP) bt bc bp g)) (hmp : H bp = some (.map (.row [.str, .int .i64]) (encK mp))) (hP : H bP = some (.arr 36 5 vP rs))
  (hi : g = true → isBuiltin k = false → ∀ i, kfind mp k = some i → i < rs.length) (K : A → Heap → Prop)
  (hno : (g && ((kfind mp k).isSome && !isBuiltin k)) = false → K (.d (.raw (.pointer none))) (upd H r (tvar t c (.own bP vP) bt bc bp false)))
  (hyes : ∀ i, kfind mp k = some i → isBuiltin k = false → g = true → K (.eref bP vP 5 i 0) (upd H r (tvar t c (.own bP vP) bt bc bp true))) :
  ACall Tryd.prog (seatV eb) 98 [.ref r 0, .d k.d] H K := by
 have q1 : eqn bp r = false := eqn_objs hmp h (by intro e; cases e)
 have q2 : eqn bP r = false := eqn_objs hP h (by intro e; cases e)
 have hq := mget_encK k mp
 have hbk := fun H => builtin_ok (eb := eb) H k
 obtain ⟨kn, ka⟩ := k
 simp only [Ky.d, Ky.cs] at hq hbk
 refine ACall.hp_in h ?_
 refine ACall.by mixed fn98 (by simp) ?_
 conv in s98 => cbv
 refine svc_start ?_
 simp -dsimp (maxDischargeDepth := 9) only [go_sem, zA, zB, zC, zD, zE, zF, zG, gS, Ky.d, Ky.cs]
 refine newK_hp (fun b3 f3 => ?_)
 simp only [off_cons, off_nil] at f3
 have e1 := eqn_some hmp f3.2.2
 have e2 := eqn_some hP f3.2.2
 simp -dsimp (maxDischargeDepth := 9) only [go_sem, zA, zB, zC, zD, zE, zF, zG, gS, f3, q1, e1, hmp, hq]
 cases hf : kfind mp ⟨kn, ka⟩ with
 | none =>
  simp -dsimp (maxDischargeDepth := 9) only [go_sem, zA, zB, zC, zD, zE, zF, zG, gS, f3, Option.map_none, Option.getD_none, Option.isSome_none]
  refine need53_ok _ r t c (.own bP vP) bt bc bp g false (by simp only [hpS, eq_self, implies_true, f3]) _ ?_
  simp -dsimp (maxDischargeDepth := 9) only [go_sem, zA, zB, zC, zD, zE, zF, zG, gS, f3, Bool.and_false]
  refine retW_drop (G := hp H [(r, tvar t c (.own bP vP) bt bc bp false)]) (leH_hp (by simp only [hpS, eq_self, implies_true, f3]) (by simp only [hpS, eq_self, implies_true, f3])) (retW_is (hno ?_))
  rw [hf]; simp
 | some i =>
  simp -dsimp (maxDischargeDepth := 9) only [go_sem, zA, zB, zC, zD, zE, zF, zG, gS, f3, Option.map_some, Option.getD_some, Option.isSome_some]
  refine hbk _ _ ?_
  simp -dsimp (maxDischargeDepth := 9) only [go_sem, zA, zB, zC, zD, zE, zF, zG, gS, f3]
  refine need53_ok _ r t c (.own bP vP) bt bc bp g _ (by simp only [hpS, eq_self, implies_true, f3]) _ ?_
  cases hb : isBuiltin ⟨kn, ka⟩ with
  | true =>
   simp -dsimp (maxDischargeDepth := 9) only [go_sem, zA, zB, zC, zD, zE, zF, zG, gS, f3, Bool.not_true, Bool.and_false]
   refine retW_drop (G := hp H [(r, tvar t c (.own bP vP) bt bc bp false)]) (leH_hp (by simp only [hpS, eq_self, implies_true, f3]) (by simp only [hpS, eq_self, implies_true, f3])) (retW_is (hno ?_))
   rw [hf, hb]; simp
  | false =>
   cases g with
   | false =>
    simp -dsimp (maxDischargeDepth := 9) only [go_sem, zA, zB, zC, zD, zE, zF, zG, gS, f3, Bool.false_and]
    refine retW_drop (G := hp H [(r, tvar t c (.own bP vP) bt bc bp false)]) (leH_hp (by simp only [hpS, eq_self, implies_true, f3]) (by simp only [hpS, eq_self, implies_true, f3])) (retW_is (hno rfl))
   | true =>
    have hi' := hi rfl hb i hf
    simp -dsimp (maxDischargeDepth := 9) only [go_sem, zA, zB, zC, zD, zE, zF, zG, gS, f3, Bool.not_false, Bool.and_true, q2, e2, hP, hi']
    exact retW_drop (G := hp H [(r, tvar t c (.own bP vP) bt bc bp true)]) (leH_hp (by simp only [hpS, eq_self, implies_true, f3]) (by simp only [hpS, eq_self, implies_true, f3])) (retW_is (hyes i hf hb rfl))
end Go.Aug

/- The program's names: what items name is asked. -/
namespace Go.Aug
open Nat renaming reduceBEq → zA, reduceLT → zB, reduceAdd → zC, reduceSub → zD, reduceMul → zE, reduceLeDiff → zF
open Int renaming reduceLE → zG
open Go.Proofs
set_option maxRecDepth 100000
set_option linter.unusedSimpArgs false
attribute [local irreducible] hid andK letA onSome onVar onArr arrOnly onInt onBool onFunc onTup idxA ldV ldD addO appTo fillL slA srcK nilQ retW gif sgd sguard svc sops sdops sagain aopO aLoad aStore aBin aUn aConv aLen aIndexAddr aIndex aIndexAddrS aIndexS aSlice aAppend aBuild aBuildSlice aMakeSlice aField aFieldOf aCallOp deepK deepL frzM putE newK newV growV ACall roundQ thenQ inBlockQ sret cnd szs nilC onMap onRow aLookup aMapUpdate aMakeMap
attribute [local go_sem] Int.natCast_zero
/-- A declared predicate while its modes and clauses grow. -/
structure PX where
 key : Ky
 types : List Ty
 ms : List Md
 cs : List Int
 ma : A
 ca : A
def PX.d (x : PX) : D := .agg [.str x.key.name, .int .i64 x.key.ar, .slice (x.types.map Ty.d), cellD x.ma, cellD x.ca]
def PX.pr (x : PX) : Pr := ⟨x.key, x.types, x.ms, x.cs⟩
abbrev PX.ps (x : PX) : List Pc := [pcM x.ms x.ma, pcI x.cs x.ca]
abbrev rowX (xs : List PX) : List D := builtinsL.map Pr.d ++ xs.map PX.d
abbrev pcX (xs : List PX) (p : A) : Pc := ⟨36, 5, rowX xs, p⟩
/-- What an item adds to a predicate. -/
def pAdd (i : Nat) (it : It) (p : Pr) : Pr :=
 if isOf 3 p.key it = true then { p with modes := p.modes ++ [⟨it.ways, it.det⟩] } else if isOf 4 p.key it = true then { p with clauses := p.clauses ++ [(i : Int)] } else p
def pOwn (mp : List (Ky × Nat)) (k : Ky) : Bool := (kfind mp k).isSome && !isBuiltin k
/-- Does an item name what is declared, in what is not yet there? -/
def pUses (mt : List (ByteArray × Nat)) (mc mp : List (Ky × Nat)) (ps : List Pr) (it : It) : Bool :=
 if it.kind = 1 then it.ctors.all fun c => pTys mt it.vars true c.args
 else if it.kind = 2 then pTys mt [] false it.types
 else if it.kind = 3 then pOwn mp (keyOf it) && !(ps.any fun p => decide (p.key = keyOf it) && p.modes.any fun m => decide (m.ways = it.ways))
 else if it.kind = 4 then pOwn mp (keyOf it) && (pTms mc it.args && pGl mc mp it.body)
 else true
/-- The map of predicates tells their places. -/
def Places (mp : List (Ky × Nat)) (xs : List PX) : Prop := ∀ k i, kfind mp k = some i → isBuiltin k = false → ∃ ys x zs, xs = ys ++ x :: zs ∧ i = 7 + ys.length ∧ x.key = k ∧ (∀ y ∈ ys, y.key ≠ k) ∧ ∀ y ∈ zs, y.key ≠ k
/-- Rows that may grow on. -/
def Grows (n : Nat) (xs : List PX) : Prop := ∀ x ∈ xs, x.ms.length ≤ n ∧ x.cs.length ≤ n ∧ ∀ m ∈ x.ms, m.ways.length ≤ 32768
theorem AccN.set {H R : Heap} {ks : List Nat} {pre post : List Pc} {p : Pc} {b : Nat} {v : Value} (h : AccN H ks (pre ++ p :: post) R) (ha : p.a = .own b v) (xs : List D) : AccN H ks (pre ++ ⟨p.E, p.sz, xs, p.a⟩ :: post) (upd R b (.arr p.E p.sz v xs)) := by
 rcases h.mid with ⟨_, e⟩ | ⟨b', v', e, h1, h2, h3, h4⟩
 ·rw [ha] at e; cases e
 ·rw [ha] at e; cases e
  refine h.with (fun k o hk => ?_) (.inr ⟨b, v, ha, h1, h2, h3, by simp [upd]⟩) (fun q hq => h.pair hq) (fun q hq c hc => ?_)
  ·rw [upd_ne _ _ (fun e => by rw [e, h2] at hk; cases hk)]; exact h.le k o hk
  ·exact upd_ne _ _ fun e => h.pair hq c hc (by rw [ha, e]; rfl)
theorem AccN.rowAt {H R : Heap} {ks : List Nat} {pre post : List Pc} {p : Pc} {l : List (Nat × AObj)} (h : AccN H ks (pre ++ p :: post) R) (hl : okK ks R l) : RowAt (hp R l) p.E p.sz p.xs p.a := by
 rcases h.mid with ⟨e1, e2⟩ | ⟨b, v, e, h1, h2, h3, h4⟩
 ·exact .inl ⟨e1, e2⟩
 ·exact .inr ⟨b, v, e, h3, by rw [hp_not (h.out hl e)]; exact h4⟩
theorem RowAt.unraw {H : Heap} {E : TypeId} {sz : Nat} {ds : List D} {a : A} (h : RowAt H E sz ds a) : unraw (cellD a) = a := by
 rcases h with ⟨_, rfl⟩ | ⟨b, v, rfl, hv, _⟩
 ·exact unraw_nils
 ·exact unraw_own hv
theorem memK_four {b r bt bc bp : Nat} (h : memK b [r, bt, bc, bp] = false) : (eqn b r = false ∧ eqn r b = false) ∧ (eqn b bt = false ∧ eqn bt b = false) ∧ (eqn b bc = false ∧ eqn bc b = false) ∧ (eqn b bp = false ∧ eqn bp b = false) := by
 have hc : ∀ a c : Nat, eqn a c = false → eqn c a = false := fun a c h => eqn_ne fun e => by rw [e, eqn_self] at h; cases h
 simp only [memK, cnd] at h
 repeat' (split at h; · cases h)
 rename_i h1 h2 h3 h4
 simp only [Bool.not_eq_true] at h1 h2 h3 h4
 exact ⟨⟨h1, hc _ _ h1⟩, ⟨h2, hc _ _ h2⟩, ⟨h3, hc _ _ h3⟩, ⟨h4, hc _ _ h4⟩⟩
theorem ReA.nils : ReA .nils (.d (.slice [])) := fun V w Z u r => by
 cases r with
 | nils => exact .d _ _ (.empty none 0)
theorem pAdd_other {i : Nat} {it : It} (h3 : it.kind ≠ 3) (h4 : it.kind ≠ 4) (p : Pr) : pAdd i it p = p := by
 simp only [pAdd, isOf, decide_eq_false h3, decide_eq_false h4, Bool.false_and, Bool.false_eq_true, if_false]
theorem pAdd_others {i : Nat} {it : It} (h3 : it.kind ≠ 3) (h4 : it.kind ≠ 4) (l : List Pr) : l = l.map (pAdd i it) := by
 rw [List.map_congr_left (g := id) fun p _ => pAdd_other h3 h4 p, List.map_id]
theorem pAdd_ne {i : Nat} {it : It} {p : Pr} (h : p.key ≠ keyOf it) : pAdd i it p = p := by
 have e : Ky.eqb (keyOf it) p.key = false := by
  cases hc : Ky.eqb (keyOf it) p.key with
  | false => rfl
  | true => exact absurd ((Ky.eqb_iff _ _).1 hc).symm h
 simp only [pAdd, isOf, e, Bool.and_false, Bool.false_eq_true, if_false]
theorem pAdd_3 {i : Nat} {it : It} {p : Pr} (h : p.key = keyOf it) (h3 : it.kind = 3) : pAdd i it p = { p with modes := p.modes ++ [⟨it.ways, it.det⟩] } := by
 simp only [pAdd, isOf, (Ky.eqb_iff _ _).2 h.symm, h3, decide_true, Bool.and_self, if_true]
theorem pAdd_4 {i : Nat} {it : It} {p : Pr} (h : p.key = keyOf it) (h4 : it.kind = 4) : pAdd i it p = { p with clauses := p.clauses ++ [(i : Int)] } := by
 have e : ¬ ((4 : Int) = 3) := by decide
 simp only [pAdd, isOf, (Ky.eqb_iff _ _).2 h.symm, h4, decide_true, Bool.and_true, e, decide_false, Bool.false_eq_true, if_false, if_true]
theorem pAdd_map {i : Nat} {it : It} {ys zs : List PX} {x x' : PX} (hy : ∀ y ∈ ys, y.key ≠ keyOf it) (hz : ∀ y ∈ zs, y.key ≠ keyOf it) (hx : x'.pr = pAdd i it x.pr) : (ys ++ x' :: zs).map PX.pr = ((ys ++ x :: zs).map PX.pr).map (pAdd i it) := by
 have e : ∀ l : List PX, (∀ y ∈ l, y.key ≠ keyOf it) → l.map PX.pr = (l.map PX.pr).map (pAdd i it) := fun l h => by
  rw [List.map_map]
  exact List.map_congr_left fun y hy => (pAdd_ne (h y hy)).symm
 rw [List.map_append, List.map_cons, List.map_append, List.map_cons, List.map_append, List.map_cons, ← e ys hy, ← e zs hz, hx]
theorem any_one {ys zs : List PX} {x : PX} {k : Ky} (f : Pr → Bool) (hy : ∀ y ∈ ys, y.key ≠ k) (hz : ∀ y ∈ zs, y.key ≠ k) (hx : x.key = k) : ((ys ++ x :: zs).map PX.pr).any (fun p => decide (p.key = k) && f p) = f x.pr := by
 have e : ∀ l : List PX, (∀ y ∈ l, y.key ≠ k) → (l.map PX.pr).any (fun p => decide (p.key = k) && f p) = false := fun l h => by
  rw [List.any_eq_false]
  intro p hp
  obtain ⟨y, hy, rfl⟩ := List.mem_map.1 hp
  have : ¬ y.pr.key = k := h y hy
  simp [this]
 rw [List.map_append, List.map_cons, List.any_append, List.any_cons, e ys hy, e zs hz]
 have : x.pr.key = k := hx
 simp [this]
theorem idxI_neg : ∀ o : Option Nat, decide (idxI o < 0) = o.isNone
 | none => rfl
 | some j => decide_eq_false (by simp only [idxI]; omega)
theorem fidx_isNone {α : Type} (p : α → Bool) : ∀ l : List α, (fidx p l).isNone = !(l.any p)
 | [] => rfl
 | x :: xs => by
  have ih := fidx_isNone p xs
  simp only [fidx, List.any_cons]
  by_cases hx : p x = true
  ·rw [if_pos hx, hx]; rfl
  ·rw [if_neg hx, Bool.eq_false_iff.2 hx, Bool.false_or, ← ih]
   cases fidx p xs <;> rfl
theorem fidx_neg {α : Type} (p : α → Bool) (l : List α) : decide (idxI (fidx p l) < 0) = !(l.any p) := by rw [idxI_neg, fidx_isNone]
theorem set_mid {α : Type} {b' : α} {C : List α} : ∀ {A : List α} {b : α}, (A ++ b :: C).set A.length b' = A ++ b' :: C
 | [], _ => rfl
 | a :: A, _ => by simp only [List.cons_append, List.length_cons, List.set_cons_succ]; rw [set_mid]
theorem rowX_set {ys zs : List PX} {x x' : PX} : (rowX (ys ++ x :: zs)).set (7 + ys.length) x'.d = rowX (ys ++ x' :: zs) := by
 have e : ∀ z : PX, rowX (ys ++ z :: zs) = (builtinsL.map Pr.d ++ ys.map PX.d) ++ z.d :: zs.map PX.d := fun z => by simp [rowX]
 have hl : (builtinsL.map Pr.d ++ ys.map PX.d).length = 7 + ys.length := by rw [List.length_append, List.length_map, List.length_map]; rfl
 rw [e, e, ← hl, set_mid]
set_option maxHeartbeats 16000000 in
theorem use52_ok {eb : EbG} (i : Nat) (it : It) (hit : it.small) {H0 R : Heap} {r bt bc bp : Nat} (h4 : Four r bt bc bp) {q1 q2 : Pc} {xs : List PX} {t c p : A} (hacc : AccN H0 [r, bt, bc, bp] (q1 :: q2 :: pcX xs p :: xs.flatMap PX.ps) R)
  (mt : List (ByteArray × Nat)) (mc mp : List (Ky × Nat)) (g : Bool) (hpl : g = true → Places mp xs) (hgr : g = true → Grows 1048576 xs) (K : A → Heap → Prop)
  (hK : ∀ xs' p' R', AccN H0 [r, bt, bc, bp] (q1 :: q2 :: pcX xs' p' :: xs'.flatMap PX.ps) R' → xs'.length = xs.length → ((g && pUses mt mc mp (xs.map PX.pr) it) = true → xs'.map PX.pr = (xs.map PX.pr).map (pAdd i it)) →
   K (.tup []) (hp R' [(r, tvar t c p' bt bc bp (g && pUses mt mc mp (xs.map PX.pr) it)), (bt, .map (.one .str) (enc mt)), (bc, .map (.row [.str, .int .i64]) (encK mc)), (bp, .map (.row [.str, .int .i64]) (encK mp))])) :
  ACall Tryd.prog (seatV eb) 52 [.ref r 0, .d (.int .i64 i), .d it.d] (hp R [(r, tvar t c p bt bc bp g), (bt, .map (.one .str) (enc mt)), (bc, .map (.row [.str, .int .i64]) (encK mc)), (bp, .map (.row [.str, .int .i64]) (encK mp))]) K := by
 obtain ⟨a1, a2, a3, a4, a5, a6, a7, a8, a9, a10, a11, a12⟩ := h4
 obtain ⟨x1, x2, x3, x4, x5, x6, x7, x8, x9, x10, x11, x12, hbody, hd⟩ := it.opn
 have hnc := hit.nct
 obtain ⟨rs, hrs⟩ : ∃ rs, rs = rowX xs := ⟨_, rfl⟩
 rcases AccN.mid (pre := [q1, q2]) hacc with ⟨e, _⟩ | ⟨bP, vP, hpe, hk, hH0, hv, hP⟩
 ·simp [rowX, builtinsL] at e
 obtain rfl : p = .own bP vP := hpe
 have hP : R bP = some (.arr 36 5 vP rs) := by rw [hrs]; exact hP
 obtain ⟨⟨k1, k2⟩, ⟨k3, k4⟩, ⟨k5, k6⟩, k7, k8⟩ := memK_four hk
 have hnt := hit.types.1
 rw [hd]
 refine ACall.by mixed fn52 (by simp) ?_
 conv in s52 => cbv
 refine svc_start ?_
 simp -dsimp (maxDischargeDepth := 9) only [go_sem, zA, zB, zC, zD, zE, zF, zG, gS]
 refine newK_hp (fun b5 f5 => ?_)
 simp only [off_cons, off_nil] at f5
 have f5H := f5.2.2.2.2.2.2.2.2
 have k9 := eqn_some hP f5H
 simp -dsimp (maxDischargeDepth := 9) only [go_sem, zA, zB, zC, zD, zE, zF, zG, gS, a1, a2, a3, a4, a5, a6, a7, a8, a9, a10, a11, a12, f5]
 refine gif_split (fun g1 => ?_) (fun g1 => ?_)
 ·have e1 : it.kind = 1 := of_decide_eq_true g1
  simp only [pUses, if_pos e1] at hK
  simp -dsimp (maxDischargeDepth := 9) only [go_sem, zA, zB, zC, zD, zE, zF, zG, gS, g1, a1, a2, a3, a4, a5, a6, a7, a8, a9, a10, a11, a12, f5]
  refine svc_loop (X := Nat × Bool) (fun y => [(0, .ref r 0), (5, .ref b5 0), (21, .d (.slice (it.ctors.map Ct.d))), (22, .d (.int .i64 it.ctors.length)), (23, .d (.int .i64 y.1))])
   (fun y G => G = hp R [(r, tvar t c (.own bP vP) bt bc bp y.2), (bt, .map (.one .str) (enc mt)), (bc, .map (.row [.str, .int .i64]) (encK mc)), (bp, .map (.row [.str, .int .i64]) (encK mp)), (b5, .var [.d (.int .i64 it.kind), .d (.str it.name), .d (.slice (it.vars.map .str)), .d (.slice (it.ctors.map Ct.d)), .d (.slice (it.types.map Ty.d)), .d (.slice (it.ways.map .bool)), .d (.int .i64 it.det), .d (.slice (it.args.map Tm.d)), .d x1, .d x2, .d x3, .d x4, .d x5, .d x6, .d x7, .d x8, .d x9, .d x10, .d x11, .d x12])] ∧ y.1 ≤ it.ctors.length ∧ (y.2 && (it.ctors.drop y.1).all fun c => pTys mt it.vars true c.args) = (g && it.ctors.all fun c => pTys mt it.vars true c.args)) (fun y => it.ctors.length - y.1) (0, g) _ ⟨rfl, Nat.zero_le _, rfl⟩ (by simp -dsimp (maxDischargeDepth := 9) only [go_sem, zA, zB, zC, zD, zE, zF, zG, gS]) (leH_hp (by simp only [hpS, eq_self, implies_true, a1, a2, a3, a4, a5, a6, a7, a8, a9, a10, a11, a12, f5]) (by simp only [hpS, eq_self, implies_true, a1, a2, a3, a4, a5, a6, a7, a8, a9, a10, a11, a12, f5])) ?_
  rintro ⟨j, gj⟩ G ⟨hG, hj, hrun⟩
  simp only at hG hj hrun
  subst hG
  simp -dsimp (maxDischargeDepth := 9) only [go_sem, zA, zB, zC, zD, zE, zF, zG, gS]
  refine gif_split (fun q3 => ?_) (fun q3 => ?_)
  ·have q3' : j < it.ctors.length := by have := of_decide_eq_true q3; omega
   obtain ⟨q, hq⟩ := list_at q3'
   have hwj := wrapN (k := j) (by omega)
   have hqs := hit.ctors q (List.mem_of_getElem? hq)
   rw [drop_at hq] at hrun
   simp only [List.all_cons] at hrun
   simp -dsimp (maxDischargeDepth := 9) only [go_sem, zA, zB, zC, zD, zE, zF, zG, gS, q3, hq, Ct.d, Ct.cs]
   refine newK_hp (fun b7 f7 => ?_)
   simp only [off_cons, off_nil] at f7
   simp -dsimp (maxDischargeDepth := 9) only [go_sem, zA, zB, zC, zD, zE, zF, zG, gS, a1, a2, a3, a4, a5, a6, a7, a8, a9, a10, a11, a12, f5, f7]
   refine svc_loop (X := Nat × Bool) (fun y => [(0, .ref r 0), (5, .ref b5 0), (21, .d (.slice (it.ctors.map Ct.d))), (22, .d (.int .i64 it.ctors.length)), (23, .d (.int .i64 j)), (28, .d (.slice (q.args.map Ty.d))), (29, .d (.int .i64 q.args.length)), (30, .d (.int .i64 y.1))])
    (fun y G => G = hp R [(r, tvar t c (.own bP vP) bt bc bp y.2), (bt, .map (.one .str) (enc mt)), (bc, .map (.row [.str, .int .i64]) (encK mc)), (bp, .map (.row [.str, .int .i64]) (encK mp)), (b5, .var [.d (.int .i64 it.kind), .d (.str it.name), .d (.slice (it.vars.map .str)), .d (.slice (it.ctors.map Ct.d)), .d (.slice (it.types.map Ty.d)), .d (.slice (it.ways.map .bool)), .d (.int .i64 it.det), .d (.slice (it.args.map Tm.d)), .d x1, .d x2, .d x3, .d x4, .d x5, .d x6, .d x7, .d x8, .d x9, .d x10, .d x11, .d x12])] ∧ y.1 ≤ q.args.length ∧ (y.2 && pTys mt it.vars true (q.args.drop y.1)) = (gj && pTys mt it.vars true q.args)) (fun y => q.args.length - y.1) (0, gj) _ ⟨rfl, Nat.zero_le _, rfl⟩ (by simp -dsimp (maxDischargeDepth := 9) only [go_sem, zA, zB, zC, zD, zE, zF, zG, gS]) (leH_hp (by simp only [hpS, eq_self, implies_true, a1, a2, a3, a4, a5, a6, a7, a8, a9, a10, a11, a12, f5, f7]) (by simp only [hpS, eq_self, implies_true, a1, a2, a3, a4, a5, a6, a7, a8, a9, a10, a11, a12, f5, f7])) ?_
   rintro ⟨j2, g2⟩ G ⟨hG, hj2, hrun2⟩
   simp only at hG hj2 hrun2
   subst hG
   simp -dsimp (maxDischargeDepth := 9) only [go_sem, zA, zB, zC, zD, zE, zF, zG, gS]
   refine gif_split (fun q4 => ?_) (fun q4 => ?_)
   ·have q4' : j2 < q.args.length := by have := of_decide_eq_true q4; omega
    obtain ⟨u, hu⟩ := list_at q4'
    have hw2 := wrapN (k := j2) (by omega)
    have hus := Ty.smalls_mem hqs.2 u (List.mem_of_getElem? hu)
    rw [drop_at hu] at hrun2
    simp only [pTys] at hrun2
    have ct := fun H a b d K => typ97_ok (eb := eb) mt it.vars (Nat.le_trans hit.vars (by decide)) true _ u (Nat.le_refl _) hus H r t c (.own bP vP) bt bc bp g2 a b d K
    obtain ⟨uv, un, us⟩ := u
    simp -dsimp (maxDischargeDepth := 9) only [go_sem, zA, zB, zC, zD, zE, zF, zG, gS, q4, hu, Ty.d, Ty.cs]
    refine newK_hp (fun b9 f9 => ?_)
    simp only [off_cons, off_nil] at f9
    simp -dsimp (maxDischargeDepth := 9) only [go_sem, zA, zB, zC, zD, zE, zF, zG, gS, a1, a2, a3, a4, a5, a6, a7, a8, a9, a10, a11, a12, f5, f9]
    refine ct _ (by simp only [hpS, eq_self, implies_true, a1, a2, a3, a4, a5, a6, a7, a8, a9, a10, a11, a12, f5, f9]) (by simp only [hpS, eq_self, implies_true, a1, a2, a3, a4, a5, a6, a7, a8, a9, a10, a11, a12, f5, f9]) (by simp only [hpS, eq_self, implies_true, a1, a2, a3, a4, a5, a6, a7, a8, a9, a10, a11, a12]) _ ?_
    simp -dsimp (maxDischargeDepth := 9) only [go_sem, zA, zB, zC, zD, zE, zF, zG, gS, a1, a2, a3, a4, a5, a6, a7, a8, a9, a10, a11, a12, f5, f9, hw2]
    exact roundQ_next (j2 + 1, g2 && pTy mt it.vars true (.mk uv un us)) _ ⟨rfl, q4', by simp only; rw [← hrun2, Bool.and_assoc]⟩ (by simp only; omega) (by simp -dsimp (maxDischargeDepth := 9) only [go_sem, zA, zB, zC, zD, zE, zF, zG, gS]) (leH_hp (by simp only [hpS, eq_self, implies_true, a1, a2, a3, a4, a5, a6, a7, a8, a9, a10, a11, a12, f5, f9]) (by simp only [hpS, eq_self, implies_true, a1, a2, a3, a4, a5, a6, a7, a8, a9, a10, a11, a12, f5, f9]))
   ·rw [drop_end (by have := of_decide_eq_false q4; omega)] at hrun2
    simp only [pTys, Bool.and_true] at hrun2
    simp -dsimp (maxDischargeDepth := 9) only [go_sem, zA, zB, zC, zD, zE, zF, zG, gS, q4, hwj]
    exact roundQ_next (j + 1, g2) _ ⟨rfl, q3', by simp only; rw [hrun2, ← hrun, Bool.and_assoc]⟩ (by simp only; omega) (by simp -dsimp (maxDischargeDepth := 9) only [go_sem, zA, zB, zC, zD, zE, zF, zG, gS]) (leH_hp (by simp only [hpS, eq_self, implies_true, a1, a2, a3, a4, a5, a6, a7, a8, a9, a10, a11, a12, f5]) (by simp only [hpS, eq_self, implies_true, a1, a2, a3, a4, a5, a6, a7, a8, a9, a10, a11, a12, f5]))
  ·rw [drop_end (by have := of_decide_eq_false q3; omega)] at hrun
   simp only [List.all_nil, Bool.and_true] at hrun
   simp -dsimp (maxDischargeDepth := 9) only [go_sem, zA, zB, zC, zD, zE, zF, zG, gS, q3]
   rw [← hrun] at hK
   refine retW_drop (G := hp R [(r, tvar t c (.own bP vP) bt bc bp gj), (bt, .map (.one .str) (enc mt)), (bc, .map (.row [.str, .int .i64]) (encK mc)), (bp, .map (.row [.str, .int .i64]) (encK mp))]) (leH_hp (by simp only [hpS, eq_self, implies_true, a1, a2, a3, a4, a5, a6, a7, a8, a9, a10, a11, a12, f5]) (by simp only [hpS, eq_self, implies_true, a1, a2, a3, a4, a5, a6, a7, a8, a9, a10, a11, a12, f5])) (retW_is (hK xs _ R hacc rfl fun _ => pAdd_others (by rw [e1]; decide) (by rw [e1]; decide) _))
 ·have e1 : it.kind ≠ 1 := of_decide_eq_false g1
  simp -dsimp (maxDischargeDepth := 9) only [go_sem, zA, zB, zC, zD, zE, zF, zG, gS, g1, a1, a2, a3, a4, a5, a6, a7, a8, a9, a10, a11, a12, f5]
  refine gif_split (fun g2 => ?_) (fun g2 => ?_)
  ·have e2 : it.kind = 2 := of_decide_eq_true g2
   simp only [pUses, if_neg e1, if_pos e2] at hK
   simp -dsimp (maxDischargeDepth := 9) only [go_sem, zA, zB, zC, zD, zE, zF, zG, gS, g2, a1, a2, a3, a4, a5, a6, a7, a8, a9, a10, a11, a12, f5]
   refine svc_loop (X := Nat × Bool) (fun y => [(0, .ref r 0), (44, .d (.slice (it.types.map Ty.d))), (45, .d (.int .i64 it.types.length)), (46, .d (.int .i64 y.1))])
    (fun y G => G = hp R [(r, tvar t c (.own bP vP) bt bc bp y.2), (bt, .map (.one .str) (enc mt)), (bc, .map (.row [.str, .int .i64]) (encK mc)), (bp, .map (.row [.str, .int .i64]) (encK mp))] ∧ y.1 ≤ it.types.length ∧ (y.2 && pTys mt [] false (it.types.drop y.1)) = (g && pTys mt [] false it.types)) (fun y => it.types.length - y.1) (0, g) _ ⟨rfl, Nat.zero_le _, rfl⟩ (by simp -dsimp (maxDischargeDepth := 9) only [go_sem, zA, zB, zC, zD, zE, zF, zG, gS]) (leH_hp (by simp only [hpS, eq_self, implies_true, a1, a2, a3, a4, a5, a6, a7, a8, a9, a10, a11, a12, f5]) (by simp only [hpS, eq_self, implies_true, a1, a2, a3, a4, a5, a6, a7, a8, a9, a10, a11, a12, f5])) ?_
   rintro ⟨j2, g2⟩ G ⟨hG, hj2, hrun2⟩
   simp only at hG hj2 hrun2
   subst hG
   simp -dsimp (maxDischargeDepth := 9) only [go_sem, zA, zB, zC, zD, zE, zF, zG, gS]
   refine gif_split (fun q4 => ?_) (fun q4 => ?_)
   ·have q4' : j2 < it.types.length := by have := of_decide_eq_true q4; omega
    obtain ⟨u, hu⟩ := list_at q4'
    have hw2 := wrapN (k := j2) (by omega)
    have hus := Ty.smalls_mem hit.types.2 u (List.mem_of_getElem? hu)
    rw [drop_at hu] at hrun2
    simp only [pTys] at hrun2
    have ct := fun H a b d K => typ97_ok (eb := eb) mt [] (by decide) false _ u (Nat.le_refl _) hus H r t c (.own bP vP) bt bc bp g2 a b d K
    simp only [List.map_nil] at ct
    obtain ⟨uv, un, us⟩ := u
    simp -dsimp (maxDischargeDepth := 9) only [go_sem, zA, zB, zC, zD, zE, zF, zG, gS, q4, hu, Ty.d, Ty.cs]
    refine newK_hp (fun b11 f11 => ?_)
    simp only [off_cons, off_nil] at f11
    simp -dsimp (maxDischargeDepth := 9) only [go_sem, zA, zB, zC, zD, zE, zF, zG, gS, a1, a2, a3, a4, a5, a6, a7, a8, a9, a10, a11, a12, f11]
    refine ACall.re (ct _ (by simp only [hpS, eq_self, implies_true, a1, a2, a3, a4, a5, a6, a7, a8, a9, a10, a11, a12, f11]) (by simp only [hpS, eq_self, implies_true, a1, a2, a3, a4, a5, a6, a7, a8, a9, a10, a11, a12, f11]) (by simp only [hpS, eq_self, implies_true, a1, a2, a3, a4, a5, a6, a7, a8, a9, a10, a11, a12]) _ ?_) rfl (fun j hj hj' => ?_)
    rotate_left
    ·match j, hj, hj' with
     | 0, _, _ => exact .refl _
     | 1, _, _ => exact .refl _
     | 2, _, _ => exact .nils
     | 3, _, _ => exact .refl _
    simp -dsimp (maxDischargeDepth := 9) only [go_sem, zA, zB, zC, zD, zE, zF, zG, gS, a1, a2, a3, a4, a5, a6, a7, a8, a9, a10, a11, a12, f11, hw2]
    exact roundQ_next (j2 + 1, g2 && pTy mt [] false (.mk uv un us)) _ ⟨rfl, q4', by simp only; rw [← hrun2, Bool.and_assoc]⟩ (by simp only; omega) (by simp -dsimp (maxDischargeDepth := 9) only [go_sem, zA, zB, zC, zD, zE, zF, zG, gS]) (leH_hp (by simp only [hpS, eq_self, implies_true, a1, a2, a3, a4, a5, a6, a7, a8, a9, a10, a11, a12, f11]) (by simp only [hpS, eq_self, implies_true, a1, a2, a3, a4, a5, a6, a7, a8, a9, a10, a11, a12, f11]))
   ·rw [drop_end (by have := of_decide_eq_false q4; omega)] at hrun2
    simp only [pTys, Bool.and_true] at hrun2
    simp -dsimp (maxDischargeDepth := 9) only [go_sem, zA, zB, zC, zD, zE, zF, zG, gS, q4]
    rw [← hrun2] at hK
    refine retW_drop (G := hp R [(r, tvar t c (.own bP vP) bt bc bp g2), (bt, .map (.one .str) (enc mt)), (bc, .map (.row [.str, .int .i64]) (encK mc)), (bp, .map (.row [.str, .int .i64]) (encK mp))]) (leH_hp (by simp only [hpS, eq_self, implies_true, a1, a2, a3, a4, a5, a6, a7, a8, a9, a10, a11, a12]) (by simp only [hpS, eq_self, implies_true, a1, a2, a3, a4, a5, a6, a7, a8, a9, a10, a11, a12])) (retW_is (hK xs _ R hacc rfl fun _ => pAdd_others (by rw [e2]; decide) (by rw [e2]; decide) _))
  ·have e2 : it.kind ≠ 2 := of_decide_eq_false g2
   simp -dsimp (maxDischargeDepth := 9) only [go_sem, zA, zB, zC, zD, zE, zF, zG, gS, g2, a1, a2, a3, a4, a5, a6, a7, a8, a9, a10, a11, a12, f5]
   refine gif_split (fun g3 => ?_) (fun g3 => ?_)
   ·have e3 : it.kind = 3 := of_decide_eq_true g3
    simp only [pUses, if_neg e1, if_neg e2, if_pos e3] at hK
    simp -dsimp (maxDischargeDepth := 9) only [go_sem, zA, zB, zC, zD, zE, zF, zG, gS, g3, a1, a2, a3, a4, a5, a6, a7, a8, a9, a10, a11, a12, f5]
    have hky : keyOf it = ⟨it.name, it.ways.length⟩ := by rw [keyOf, if_neg e2, if_pos e3]
    rw [hky] at hK
    refine own98_ok ⟨it.name, it.ways.length⟩ _ r t c bt bc bp bP vP rs mp g (by simp only [hpS, eq_self, implies_true, a1, a2, a3, a4, a5, a6, a7, a8, a9, a10, a11, a12, f5]) (by simp only [hpS, eq_self, implies_true, a1, a2, a3, a4, a5, a6, a7, a8, a9, a10, a11, a12, f5]) (by simp only [hpS, eq_self, implies_true, a1, a2, a3, a4, a5, a6, a7, a8, a9, a10, a11, a12, k1, k2, k3, k4, k5, k6, k7, k8, k9, f5, hP]) ?_ _ (fun hno => ?_) (fun i2 hi2 hb2 hg => ?_)
    ·intro hg hb i2 h2
     obtain ⟨ys, x, zs, h3, h4, _⟩ := hpl hg _ _ h2 hb
     rw [hrs, h4, h3]; simp [builtinsL]
    ·simp -dsimp (maxDischargeDepth := 9) only [go_sem, zA, zB, zC, zD, zE, zF, zG, gS, a1, a2, a3, a4, a5, a6, a7, a8, a9, a10, a11, a12, f5]
     have e : (g && (pOwn mp ⟨it.name, (it.ways.length : Int)⟩ && !((xs.map PX.pr).any fun p => decide (p.key = ⟨it.name, (it.ways.length : Int)⟩) && p.modes.any fun m => decide (m.ways = it.ways)))) = false := by
      rw [← Bool.and_assoc, pOwn, hno, Bool.false_and]
     rw [e] at hK
     exact retW_drop (G := hp R [(r, tvar t c (.own bP vP) bt bc bp false), (bt, .map (.one .str) (enc mt)), (bc, .map (.row [.str, .int .i64]) (encK mc)), (bp, .map (.row [.str, .int .i64]) (encK mp))]) (leH_hp (by simp only [hpS, eq_self, implies_true, a1, a2, a3, a4, a5, a6, a7, a8, a9, a10, a11, a12, f5]) (by simp only [hpS, eq_self, implies_true, a1, a2, a3, a4, a5, a6, a7, a8, a9, a10, a11, a12, f5])) (retW_is (hK xs _ R hacc rfl fun h => by cases h))
    ·obtain ⟨ys, x, zs, hxs, hi2', hxk, hys, hzs⟩ := hpl hg _ _ hi2 hb2
     have hx : rs[i2]? = some (.agg [.str x.key.name, .int .i64 x.key.ar, .slice (x.types.map Ty.d), cellD x.ma, cellD x.ca]) := by
      rw [hrs, hxs, hi2']; simp [builtinsL, PX.d]
     have hgx := hgr hg x (by rw [hxs]; simp)
     have hsm : (q1 :: q2 :: pcX xs (.own bP vP) :: xs.flatMap PX.ps) = (q1 :: q2 :: pcX xs (.own bP vP) :: ys.flatMap PX.ps) ++ pcM x.ms x.ma :: (pcI x.cs x.ca :: zs.flatMap PX.ps) := by rw [hxs]; simp [PX.ps]
     have hsi : (q1 :: q2 :: pcX xs (.own bP vP) :: xs.flatMap PX.ps) = (q1 :: q2 :: pcX xs (.own bP vP) :: (ys.flatMap PX.ps ++ [pcM x.ms x.ma])) ++ pcI x.cs x.ca :: zs.flatMap PX.ps := by rw [hxs]; simp [PX.ps]
     have haccm := hsm ▸ hacc
     have hacci := hsi ▸ hacc
     have hRm : ∀ l, okK [r, bt, bc, bp] R l → RowAt (hp R l) 117 2 (x.ms.map Md.d) x.ma := fun l hl => haccm.rowAt hl
     have hRi : ∀ l, okK [r, bt, bc, bp] R l → RowAt (hp R l) 3 1 (x.cs.map (.int .i64)) x.ca := fun l hl => hacci.rowAt hl
     have hum : unraw (cellD x.ma) = x.ma := (hRm [] trivial).unraw
     simp -dsimp (maxDischargeDepth := 9) only [go_sem, zA, zB, zC, zD, zE, zF, zG, gS, a1, a2, a3, a4, a5, a6, a7, a8, a9, a10, a11, a12, k1, k2, k3, k4, k5, k6, k7, k8, k9, f5, hP, hx]
     refine mode38_ok x.key.name x.key.ar (x.types.map Ty.d) x.ms (Nat.le_trans hgx.1 (by decide)) (fun m hm => Nat.le_trans (hgx.2.2 m hm) (by decide)) x.ma x.ca _ it.ways _ (hRm _ (by simp only [hpS, eq_self, implies_true, a1, a2, a3, a4, a5, a6, a7, a8, a9, a10, a11, a12, f5])) (hRi _ (by simp only [hpS, eq_self, implies_true, a1, a2, a3, a4, a5, a6, a7, a8, a9, a10, a11, a12, f5])) _ ?_
     simp -dsimp (maxDischargeDepth := 9) only [go_sem, zA, zB, zC, zD, zE, zF, zG, gS, a1, a2, a3, a4, a5, a6, a7, a8, a9, a10, a11, a12, f5]
     refine need53_ok _ r t c (.own bP vP) bt bc bp true _ (by simp only [hpS, eq_self, implies_true, a1, a2, a3, a4, a5, a6, a7, a8, a9, a10, a11, a12, f5]) _ ?_
     simp -dsimp (maxDischargeDepth := 9) only [go_sem, zA, zB, zC, zD, zE, zF, zG, gS, a1, a2, a3, a4, a5, a6, a7, a8, a9, a10, a11, a12, k1, k2, k3, k4, k5, k6, k7, k8, k9, f5, hP, hx, hum]
     have hwl := hit.ways
     refine clone99 _ (it.ways.map .bool) (by simp only [List.length_map]; omega) (of_eq_true (szs_map (sz := 1) (f := D.bool) (fun _ => rfl) it.ways)) _ ?_
     simp -dsimp (maxDischargeDepth := 9) only [go_sem, zA, zB, zC, zD, zE, zF, zG, gS, a1, a2, a3, a4, a5, a6, a7, a8, a9, a10, a11, a12, k1, k2, k3, k4, k5, k6, k7, k8, k9, f5, hP, hx, hum]
     refine newV_hp (fun b86 v86 f86 w86 => ?_)
     simp only [off_cons, off_nil] at f86
     simp -dsimp (maxDischargeDepth := 9) only [go_sem, zA, zB, zC, zD, zE, zF, zG, gS, a1, a2, a3, a4, a5, a6, a7, a8, a9, a10, a11, a12, k1, k2, k3, k4, k5, k6, k7, k8, k9, f5, f86, hP, hx, hum]
     have k10 := eqn_some hP f86.2.2.2.2.2.2.2.2.2.2
     simp -dsimp (maxDischargeDepth := 9) only [go_sem, zA, zB, zC, zD, zE, zF, zG, gS, a1, a2, a3, a4, a5, a6, a7, a8, a9, a10, a11, a12, k1, k2, k3, k4, k5, k6, k7, k8, k9, f5, f86, k10, hP, hx, hum]
     refine AccN.appTo (pre := q1 :: q2 :: pcX xs (.own bP vP) :: ys.flatMap PX.ps) (p := pcM x.ms x.ma) (post := pcI x.cs x.ca :: zs.flatMap PX.ps) haccm (by simp only [hpS, eq_self, implies_true, a1, a2, a3, a4, a5, a6, a7, a8, a9, a10, a11, a12, f5, f86]) (by simp only [hpS, eq_self, implies_true, a1, a2, a3, a4, a5, a6, a7, a8, a9, a10, a11, a12]) (by have := hgx.1; simp only [List.length_map, List.length_cons, List.length_nil]; omega) (fun a' R' hacc' hn => ?_)
     have f5' := hn b5 (by simp only [hpS, eq_self, implies_true, a1, a2, a3, a4, a5, a6, a7, a8, a9, a10, a11, a12, f5, f86]) f5H
     have f86' := hn b86 (by simp only [hpS, eq_self, implies_true, a1, a2, a3, a4, a5, a6, a7, a8, a9, a10, a11, a12, f5, f86]) f86.2.2.2.2.2.2.2.2.2.2
     have haccx : AccN H0 [r, bt, bc, bp] ((q1 :: q2 :: pcX xs (.own bP vP) :: ys.flatMap PX.ps) ++ pcM (x.ms ++ [⟨it.ways, it.det⟩]) a' :: (pcI x.cs x.ca :: zs.flatMap PX.ps)) R' := by
      simp only [pcM, List.map_append, List.map_cons, List.map_nil, Md.d, Md.cs]; exact hacc'
     rcases AccN.mid haccx with ⟨e, _⟩ | ⟨bM, vM, hme, hkM, hH0M, hvM, hM⟩
     ·simp at e
     obtain rfl : a' = .own bM vM := hme
     have hP' : R' bP = some (.arr 36 5 vP rs) := by
      rcases AccN.mid (pre := [q1, q2]) hacc' with ⟨e, _⟩ | ⟨b2, v2, h1, _, _, _, h2⟩
      ·simp [rowX, builtinsL] at e
      ·cases h1; rw [hrs]; exact h2
     have hone := AccN.one hacc'
     simp -dsimp (maxDischargeDepth := 9) only [go_sem, zA, zB, zC, zD, zE, zF, zG, gS, a1, a2, a3, a4, a5, a6, a7, a8, a9, a10, a11, a12, k1, k2, k3, k4, k5, k6, k7, k8, k9, f5, f86, k10, hone]
     refine putE_raw ?_
     simp -dsimp (maxDischargeDepth := 9) only [go_sem, zA, zB, zC, zD, zE, zF, zG, gS, a1, a2, a3, a4, a5, a6, a7, a8, a9, a10, a11, a12, k1, k2, k3, k4, k5, k6, k7, k8, k9, f5, f86, k10, hP', hx]
     obtain ⟨x', hx'⟩ : ∃ x' : PX, x' = ⟨x.key, x.types, x.ms ++ [⟨it.ways, it.det⟩], x.cs, .own bM vM, x.ca⟩ := ⟨_, rfl⟩
     have hset : rs.set i2 (.agg [.str x.key.name, .int .i64 x.key.ar, .slice (x.types.map Ty.d), .raw vM, cellD x.ca]) = rowX (ys ++ x' :: zs) := by
      have e := rowX_set (ys := ys) (zs := zs) (x := x) (x' := x')
      rw [hrs, hxs, hi2', ← e, hx']; rfl
     rw [hset]
     have hacc2 := AccN.set (pre := [q1, q2]) (p := pcX xs (.own bP vP)) (post := ys.flatMap PX.ps ++ pcM (x.ms ++ [⟨it.ways, it.det⟩]) (.own bM vM) :: (pcI x.cs x.ca :: zs.flatMap PX.ps)) (b := bP) (v := vP) haccx rfl (rowX (ys ++ x' :: zs))
     have hacc3 : AccN H0 [r, bt, bc, bp] (q1 :: q2 :: pcX (ys ++ x' :: zs) (.own bP vP) :: (ys ++ x' :: zs).flatMap PX.ps) (upd R' bP (.arr 36 5 vP (rowX (ys ++ x' :: zs)))) := by
      have e : (ys ++ x' :: zs).flatMap PX.ps = ys.flatMap PX.ps ++ pcM (x.ms ++ [⟨it.ways, it.det⟩]) (.own bM vM) :: (pcI x.cs x.ca :: zs.flatMap PX.ps) := by rw [hx']; simp [PX.ps]
      rw [e]; exact hacc2
     have hgood : (g && (pOwn mp ⟨it.name, (it.ways.length : Int)⟩ && !((xs.map PX.pr).any fun p => decide (p.key = ⟨it.name, (it.ways.length : Int)⟩) && p.modes.any fun m => decide (m.ways = it.ways)))) = (true && decide (idxI (fidx (fun m => decide (m.ways = it.ways)) x.ms) < 0)) := by
      rw [hxs, any_one (fun p => p.modes.any fun m => decide (m.ways = it.ways)) hys hzs hxk, fidx_neg, hg, pOwn, hi2, hb2]; rfl
     rw [hgood] at hK
     refine retW_drop (G := hp (upd R' bP (.arr 36 5 vP (rowX (ys ++ x' :: zs)))) [(r, tvar t c (.own bP vP) bt bc bp (true && decide (idxI (fidx (fun m => decide (m.ways = it.ways)) x.ms) < 0))), (bt, .map (.one .str) (enc mt)), (bc, .map (.row [.str, .int .i64]) (encK mc)), (bp, .map (.row [.str, .int .i64]) (encK mp))]) (by rw [hp_base (by simp only [hpS, eq_self, implies_true, k1, k2, k3, k4, k5, k6, k7, k8, k9])]; exact (leH_hp (by simp only [hpS, eq_self, implies_true, a1, a2, a3, a4, a5, a6, a7, a8, a9, a10, a11, a12, k1, k2, k3, k4, k5, k6, k7, k8, k9, f5, f86, k10, f5', f86']) (by simp only [hpS, eq_self, implies_true, a1, a2, a3, a4, a5, a6, a7, a8, a9, a10, a11, a12, k1, k2, k3, k4, k5, k6, k7, k8, k9, f5, f86, k10, f5', f86']))) (retW_is (hK _ _ _ hacc3 (by rw [hxs]; simp) fun _ => ?_))
     rw [hxs]
     exact pAdd_map (fun y hy => by rw [hky]; exact hys y hy) (fun y hy => by rw [hky]; exact hzs y hy) (by rw [pAdd_3 (by rw [hky]; exact hxk) e3, hx']; rfl)
   ·have e3 : it.kind ≠ 3 := of_decide_eq_false g3
    simp -dsimp (maxDischargeDepth := 9) only [go_sem, zA, zB, zC, zD, zE, zF, zG, gS, g3, a1, a2, a3, a4, a5, a6, a7, a8, a9, a10, a11, a12, f5]
    refine gif_split (fun g4 => ?_) (fun g4 => ?_)
    ·have e4 : it.kind = 4 := of_decide_eq_true g4
     simp only [pUses, if_neg e1, if_neg e2, if_neg e3, if_pos e4] at hK
     simp -dsimp (maxDischargeDepth := 9) only [go_sem, zA, zB, zC, zD, zE, zF, zG, gS, g4, a1, a2, a3, a4, a5, a6, a7, a8, a9, a10, a11, a12, f5]
     have hky : keyOf it = ⟨it.name, it.args.length⟩ := by rw [keyOf, if_neg e2, if_neg e3]
     rw [hky] at hK
     have hag := hit.args
     refine (fun (key : (?T : Prop)) => ?main) ?rest
     case main =>
      refine own98_ok ⟨it.name, it.args.length⟩ _ r t c bt bc bp bP vP rs mp g (by simp only [hpS, eq_self, implies_true, a1, a2, a3, a4, a5, a6, a7, a8, a9, a10, a11, a12, f5]) (by simp only [hpS, eq_self, implies_true, a1, a2, a3, a4, a5, a6, a7, a8, a9, a10, a11, a12, f5]) (by simp only [hpS, eq_self, implies_true, a1, a2, a3, a4, a5, a6, a7, a8, a9, a10, a11, a12, k1, k2, k3, k4, k5, k6, k7, k8, k9, f5, hP]) ?_ _ (fun hno => ?_) (fun i2 hi2 hb2 hg => ?_)
      ·intro hg hb i2 h2
       obtain ⟨ys, x, zs, h3, h4, _⟩ := hpl hg _ _ h2 hb
       rw [hrs, h4, h3]; simp [builtinsL]
      ·simp -dsimp (maxDischargeDepth := 9) only [go_sem, zA, zB, zC, zD, zE, zF, zG, gS, a1, a2, a3, a4, a5, a6, a7, a8, a9, a10, a11, a12, f5]
       refine svc_loop (X := Nat × Bool) (fun y => [(0, .ref r 0), (5, .ref b5 0), (113, .d (.slice (it.args.map Tm.d))), (114, .d (.int .i64 it.args.length)), (115, .d (.int .i64 y.1))])
        (fun y G => (∃ R2 xs2, G = hp R2 [(r, tvar t c (.own bP vP) bt bc bp y.2), (bt, .map (.one .str) (enc mt)), (bc, .map (.row [.str, .int .i64]) (encK mc)), (bp, .map (.row [.str, .int .i64]) (encK mp)), (b5, .var [.d (.int .i64 it.kind), .d (.str it.name), .d (.slice (it.vars.map .str)), .d (.slice (it.ctors.map Ct.d)), .d (.slice (it.types.map Ty.d)), .d (.slice (it.ways.map .bool)), .d (.int .i64 it.det), .d (.slice (it.args.map Tm.d)), .d x1, .d x2, .d x3, .d x4, .d x5, .d x6, .d x7, .d x8, .d x9, .d x10, .d x11, .d x12])] ∧ AccN H0 [r, bt, bc, bp] (q1 :: q2 :: pcX xs2 (.own bP vP) :: xs2.flatMap PX.ps) R2 ∧ R2 b5 = none ∧ xs2.length = xs.length ∧ ((g && pOwn mp ⟨it.name, (it.args.length : Int)⟩) = true → xs2.map PX.pr = (xs.map PX.pr).map (pAdd i it))) ∧ y.1 ≤ it.args.length ∧ (y.2 && pTms mc (it.args.drop y.1)) = ((g && pOwn mp ⟨it.name, (it.args.length : Int)⟩) && pTms mc it.args)) (fun y => it.args.length - y.1) (0, false) _
        ⟨⟨R, xs, rfl, hacc, f5H, rfl, fun h => by rw [pOwn, hno] at h; cases h⟩, Nat.zero_le _, by simp only [pOwn, hno, List.drop_zero]⟩ (by simp -dsimp (maxDischargeDepth := 9) only [go_sem, zA, zB, zC, zD, zE, zF, zG, gS]) (leH_hp (by simp only [hpS, eq_self, implies_true, a1, a2, a3, a4, a5, a6, a7, a8, a9, a10, a11, a12, f5]) (by simp only [hpS, eq_self, implies_true, a1, a2, a3, a4, a5, a6, a7, a8, a9, a10, a11, a12, f5])) ?_
       exact key
      ·obtain ⟨ys, x, zs, hxs, hi2', hxk, hys, hzs⟩ := hpl hg _ _ hi2 hb2
       have hx : rs[i2]? = some (.agg [.str x.key.name, .int .i64 x.key.ar, .slice (x.types.map Ty.d), cellD x.ma, cellD x.ca]) := by
        rw [hrs, hxs, hi2']; simp [builtinsL, PX.d]
       have hgx := hgr hg x (by rw [hxs]; simp)
       have hsi : (q1 :: q2 :: pcX xs (.own bP vP) :: xs.flatMap PX.ps) = (q1 :: q2 :: pcX xs (.own bP vP) :: (ys.flatMap PX.ps ++ [pcM x.ms x.ma])) ++ pcI x.cs x.ca :: zs.flatMap PX.ps := by rw [hxs]; simp [PX.ps]
       have hacci := hsi ▸ hacc
       have hRi : ∀ l, okK [r, bt, bc, bp] R l → RowAt (hp R l) 3 1 (x.cs.map (.int .i64)) x.ca := fun l hl => hacci.rowAt hl
       have hum : unraw (cellD x.ca) = x.ca := (hRi [] trivial).unraw
       simp -dsimp (maxDischargeDepth := 9) only [go_sem, zA, zB, zC, zD, zE, zF, zG, gS, a1, a2, a3, a4, a5, a6, a7, a8, a9, a10, a11, a12, k1, k2, k3, k4, k5, k6, k7, k8, k9, f5, hP, hx, hum]
       refine newV_hp (fun b108 v108 f108 w108 => ?_)
       simp only [off_cons, off_nil] at f108
       have k10 := eqn_some hP f108.2.2.2.2.2.2.2.2.2.2
       simp -dsimp (maxDischargeDepth := 9) only [go_sem, zA, zB, zC, zD, zE, zF, zG, gS, a1, a2, a3, a4, a5, a6, a7, a8, a9, a10, a11, a12, k1, k2, k3, k4, k5, k6, k7, k8, k9, f5, f108, k10, hP, hx, hum]
       refine AccN.appTo (pre := q1 :: q2 :: pcX xs (.own bP vP) :: (ys.flatMap PX.ps ++ [pcM x.ms x.ma])) (p := pcI x.cs x.ca) (post := zs.flatMap PX.ps) hacci (by simp only [hpS, eq_self, implies_true, a1, a2, a3, a4, a5, a6, a7, a8, a9, a10, a11, a12, f5, f108]) (by simp only [hpS, eq_self, implies_true, a1, a2, a3, a4, a5, a6, a7, a8, a9, a10, a11, a12]) (by have := hgx.2.1; simp only [List.length_map, List.length_cons, List.length_nil]; omega) (fun a' R' hacc' hn => ?_)
       have f5' := hn b5 (by simp only [hpS, eq_self, implies_true, a1, a2, a3, a4, a5, a6, a7, a8, a9, a10, a11, a12, f5, f108]) f5H
       have f108' := hn b108 (by simp only [hpS, eq_self, implies_true, a1, a2, a3, a4, a5, a6, a7, a8, a9, a10, a11, a12, f5, f108]) f108.2.2.2.2.2.2.2.2.2.2
       have haccx : AccN H0 [r, bt, bc, bp] ((q1 :: q2 :: pcX xs (.own bP vP) :: (ys.flatMap PX.ps ++ [pcM x.ms x.ma])) ++ pcI (x.cs ++ [(i : Int)]) a' :: zs.flatMap PX.ps) R' := by
        simp only [pcI, List.map_append, List.map_cons, List.map_nil]; exact hacc'
       rcases AccN.mid haccx with ⟨e, _⟩ | ⟨bM, vM, hme, hkM, hH0M, hvM, hM⟩
       ·simp at e
       obtain rfl : a' = .own bM vM := hme
       have hP' : R' bP = some (.arr 36 5 vP rs) := by
        rcases AccN.mid (pre := [q1, q2]) hacc' with ⟨e, _⟩ | ⟨b2, v2, h1, _, _, _, h2⟩
        ·simp [rowX, builtinsL] at e
        ·cases h1; rw [hrs]; exact h2
       have hone := AccN.one hacc'
       simp -dsimp (maxDischargeDepth := 9) only [go_sem, zA, zB, zC, zD, zE, zF, zG, gS, a1, a2, a3, a4, a5, a6, a7, a8, a9, a10, a11, a12, k1, k2, k3, k4, k5, k6, k7, k8, k9, f5, f108, k10, hone]
       refine putE_raw ?_
       simp -dsimp (maxDischargeDepth := 9) only [go_sem, zA, zB, zC, zD, zE, zF, zG, gS, a1, a2, a3, a4, a5, a6, a7, a8, a9, a10, a11, a12, k1, k2, k3, k4, k5, k6, k7, k8, k9, f5, f108, k10, hP', hx]
       obtain ⟨x', hx'⟩ : ∃ x' : PX, x' = ⟨x.key, x.types, x.ms, x.cs ++ [(i : Int)], x.ma, .own bM vM⟩ := ⟨_, rfl⟩
       have hset : rs.set i2 (.agg [.str x.key.name, .int .i64 x.key.ar, .slice (x.types.map Ty.d), cellD x.ma, .raw vM]) = rowX (ys ++ x' :: zs) := by
        have e := rowX_set (ys := ys) (zs := zs) (x := x) (x' := x')
        rw [hrs, hxs, hi2', ← e, hx']; rfl
       rw [hset]
       have hacc2 := AccN.set (pre := [q1, q2]) (p := pcX xs (.own bP vP)) (post := (ys.flatMap PX.ps ++ [pcM x.ms x.ma]) ++ pcI (x.cs ++ [(i : Int)]) (.own bM vM) :: zs.flatMap PX.ps) (b := bP) (v := vP) haccx rfl (rowX (ys ++ x' :: zs))
       have hacc3 : AccN H0 [r, bt, bc, bp] (q1 :: q2 :: pcX (ys ++ x' :: zs) (.own bP vP) :: (ys ++ x' :: zs).flatMap PX.ps) (upd R' bP (.arr 36 5 vP (rowX (ys ++ x' :: zs)))) := by
        have e : (ys ++ x' :: zs).flatMap PX.ps = (ys.flatMap PX.ps ++ [pcM x.ms x.ma]) ++ pcI (x.cs ++ [(i : Int)]) (.own bM vM) :: zs.flatMap PX.ps := by rw [hx']; simp [PX.ps]
        rw [e]; exact hacc2
       have hgood : (g && pOwn mp ⟨it.name, (it.args.length : Int)⟩) = true := by rw [hg, pOwn, hi2, hb2]; rfl
       refine svc_loop (X := Nat × Bool) (fun y => [(0, .ref r 0), (5, .ref b5 0), (113, .d (.slice (it.args.map Tm.d))), (114, .d (.int .i64 it.args.length)), (115, .d (.int .i64 y.1))])
        (fun y G => (∃ R2 xs2, G = hp R2 [(r, tvar t c (.own bP vP) bt bc bp y.2), (bt, .map (.one .str) (enc mt)), (bc, .map (.row [.str, .int .i64]) (encK mc)), (bp, .map (.row [.str, .int .i64]) (encK mp)), (b5, .var [.d (.int .i64 it.kind), .d (.str it.name), .d (.slice (it.vars.map .str)), .d (.slice (it.ctors.map Ct.d)), .d (.slice (it.types.map Ty.d)), .d (.slice (it.ways.map .bool)), .d (.int .i64 it.det), .d (.slice (it.args.map Tm.d)), .d x1, .d x2, .d x3, .d x4, .d x5, .d x6, .d x7, .d x8, .d x9, .d x10, .d x11, .d x12])] ∧ AccN H0 [r, bt, bc, bp] (q1 :: q2 :: pcX xs2 (.own bP vP) :: xs2.flatMap PX.ps) R2 ∧ R2 b5 = none ∧ xs2.length = xs.length ∧ ((g && pOwn mp ⟨it.name, (it.args.length : Int)⟩) = true → xs2.map PX.pr = (xs.map PX.pr).map (pAdd i it))) ∧ y.1 ≤ it.args.length ∧ (y.2 && pTms mc (it.args.drop y.1)) = ((g && pOwn mp ⟨it.name, (it.args.length : Int)⟩) && pTms mc it.args)) (fun y => it.args.length - y.1) (0, true) (hp (upd R' bP (.arr 36 5 vP (rowX (ys ++ x' :: zs)))) [(r, tvar t c (.own bP vP) bt bc bp true), (bt, .map (.one .str) (enc mt)), (bc, .map (.row [.str, .int .i64]) (encK mc)), (bp, .map (.row [.str, .int .i64]) (encK mp)), (b5, .var [.d (.int .i64 it.kind), .d (.str it.name), .d (.slice (it.vars.map .str)), .d (.slice (it.ctors.map Ct.d)), .d (.slice (it.types.map Ty.d)), .d (.slice (it.ways.map .bool)), .d (.int .i64 it.det), .d (.slice (it.args.map Tm.d)), .d x1, .d x2, .d x3, .d x4, .d x5, .d x6, .d x7, .d x8, .d x9, .d x10, .d x11, .d x12])])
        ⟨⟨_, _, rfl, hacc3, by rw [upd_ne _ _ (fun e => by have k9' := k9; rw [e] at k9'; simp [eqn_self] at k9')]; exact f5', by rw [hxs]; simp, fun _ => by
         rw [hxs]
         exact pAdd_map (fun y hy => by rw [hky]; exact hys y hy) (fun y hy => by rw [hky]; exact hzs y hy) (by rw [pAdd_4 (by rw [hky]; exact hxk) e4, hx']; rfl)⟩, Nat.zero_le _, by simp only [hgood, List.drop_zero]⟩ (by simp -dsimp (maxDischargeDepth := 9) only [go_sem, zA, zB, zC, zD, zE, zF, zG, gS]) (by rw [hp_base (by simp only [hpS, eq_self, implies_true, k1, k2, k3, k4, k5, k6, k7, k8, k9])]; exact (leH_hp (by simp only [hpS, eq_self, implies_true, a1, a2, a3, a4, a5, a6, a7, a8, a9, a10, a11, a12, k1, k2, k3, k4, k5, k6, k7, k8, k9, f5, f108, k10, f5', f108']) (by simp only [hpS, eq_self, implies_true, a1, a2, a3, a4, a5, a6, a7, a8, a9, a10, a11, a12, k1, k2, k3, k4, k5, k6, k7, k8, k9, f5, f108, k10, f5', f108']))) ?_
       exact key
     case rest =>
      rintro ⟨j, gj⟩ G ⟨⟨R2, xs2, hG, hacc2, f52, hlen2, hpr2⟩, hj, hrun⟩
      simp only at hG hj hrun
      subst hG
      simp -dsimp (maxDischargeDepth := 9) only [go_sem, zA, zB, zC, zD, zE, zF, zG, gS]
      refine gif_split (fun q3 => ?_) (fun q3 => ?_)
      ·have q3' : j < it.args.length := by have := of_decide_eq_true q3; omega
       obtain ⟨u, hu⟩ := list_at q3'
       have hw2 := wrapN (k := j) (by omega)
       have hus := Tm.smalls_mem hag.2 u (List.mem_of_getElem? hu)
       rw [drop_at hu] at hrun
       simp only [pTms] at hrun
       have ct := fun H a b d K => term100_ok (eb := eb) mc _ u (Nat.le_refl _) hus H r t c (.own bP vP) bt bc bp gj a b d K
       obtain ⟨uk, un, ui, us⟩ := u
       simp -dsimp (maxDischargeDepth := 9) only [go_sem, zA, zB, zC, zD, zE, zF, zG, gS, q3, hu, Tm.d, Tm.cs]
       refine newK_hp (fun b15 f15 => ?_)
       simp only [off_cons, off_nil] at f15
       simp -dsimp (maxDischargeDepth := 9) only [go_sem, zA, zB, zC, zD, zE, zF, zG, gS, a1, a2, a3, a4, a5, a6, a7, a8, a9, a10, a11, a12, f5, f15]
       refine ct _ (by simp only [hpS, eq_self, implies_true, a1, a2, a3, a4, a5, a6, a7, a8, a9, a10, a11, a12, f5, f15]) (by simp only [hpS, eq_self, implies_true, a1, a2, a3, a4, a5, a6, a7, a8, a9, a10, a11, a12, f5, f15]) (by simp only [hpS, eq_self, implies_true, a1, a2, a3, a4, a5, a6, a7, a8, a9, a10, a11, a12]) _ ?_
       simp -dsimp (maxDischargeDepth := 9) only [go_sem, zA, zB, zC, zD, zE, zF, zG, gS, a1, a2, a3, a4, a5, a6, a7, a8, a9, a10, a11, a12, f5, f15, hw2]
       exact roundQ_next (j + 1, gj && pTm mc (.mk uk un ui us)) _ ⟨⟨R2, xs2, rfl, hacc2, f52, hlen2, hpr2⟩, q3', by simp only; rw [← hrun, Bool.and_assoc]⟩ (by simp only; omega) (by simp -dsimp (maxDischargeDepth := 9) only [go_sem, zA, zB, zC, zD, zE, zF, zG, gS]) (leH_hp (by simp only [hpS, eq_self, implies_true, a1, a2, a3, a4, a5, a6, a7, a8, a9, a10, a11, a12, f5, f15]) (by simp only [hpS, eq_self, implies_true, a1, a2, a3, a4, a5, a6, a7, a8, a9, a10, a11, a12, f5, f15]))
      ·rw [drop_end (by have := of_decide_eq_false q3; omega)] at hrun
       simp only [pTms, Bool.and_true] at hrun
       have cg := fun H a b d e f K => goal101_ok (eb := eb) mc mp _ it.body (Nat.le_refl _) hit.body H r t c (.own bP vP) bt bc bp gj a b d e f K
       simp only [Gl.d, hbody] at cg
       simp -dsimp (maxDischargeDepth := 9) only [go_sem, zA, zB, zC, zD, zE, zF, zG, gS, q3, a1, a2, a3, a4, a5, a6, a7, a8, a9, a10, a11, a12, f5]
       refine cg _ (by simp only [hpS, eq_self, implies_true, a1, a2, a3, a4, a5, a6, a7, a8, a9, a10, a11, a12, f5]) (by simp only [hpS, eq_self, implies_true, a1, a2, a3, a4, a5, a6, a7, a8, a9, a10, a11, a12, f5]) (by simp only [hpS, eq_self, implies_true, a1, a2, a3, a4, a5, a6, a7, a8, a9, a10, a11, a12, f5]) (by simp only [hpS, eq_self, implies_true, a1, a2, a3, a4, a5, a6, a7, a8, a9, a10, a11, a12]) (by simp only [hpS, eq_self, implies_true, a1, a2, a3, a4, a5, a6, a7, a8, a9, a10, a11, a12]) _ ?_
       simp -dsimp (maxDischargeDepth := 9) only [go_sem, zA, zB, zC, zD, zE, zF, zG, gS, a1, a2, a3, a4, a5, a6, a7, a8, a9, a10, a11, a12, f5]
       have hend : (g && (pOwn mp ⟨it.name, (it.args.length : Int)⟩ && (pTms mc it.args && pGl mc mp it.body))) = (gj && pGl mc mp it.body) := by
        rw [hrun]; simp only [Bool.and_assoc]
       rw [hend] at hK
       refine retW_drop (G := hp R2 [(r, tvar t c (.own bP vP) bt bc bp (gj && pGl mc mp it.body)), (bt, .map (.one .str) (enc mt)), (bc, .map (.row [.str, .int .i64]) (encK mc)), (bp, .map (.row [.str, .int .i64]) (encK mp))]) (leH_hp (by simp only [hpS, eq_self, implies_true, a1, a2, a3, a4, a5, a6, a7, a8, a9, a10, a11, a12, f5, f52]) (by simp only [hpS, eq_self, implies_true, a1, a2, a3, a4, a5, a6, a7, a8, a9, a10, a11, a12, f5, f52])) (retW_is (hK xs2 _ R2 hacc2 hlen2 fun h => hpr2 ?_))
       rw [hrun] at h
       simp only [Bool.and_eq_true] at h ⊢
       exact h.1.1
    ·have e4 : it.kind ≠ 4 := of_decide_eq_false g4
     simp only [pUses, if_neg e1, if_neg e2, if_neg e3, if_neg e4, Bool.and_true] at hK
     simp -dsimp (maxDischargeDepth := 9) only [go_sem, zA, zB, zC, zD, zE, zF, zG, gS, g4, a1, a2, a3, a4, a5, a6, a7, a8, a9, a10, a11, a12, f5]
     exact retW_drop (G := hp R [(r, tvar t c (.own bP vP) bt bc bp g), (bt, .map (.one .str) (enc mt)), (bc, .map (.row [.str, .int .i64]) (encK mc)), (bp, .map (.row [.str, .int .i64]) (encK mp))]) (leH_hp (by simp only [hpS, eq_self, implies_true, a1, a2, a3, a4, a5, a6, a7, a8, a9, a10, a11, a12, f5]) (by simp only [hpS, eq_self, implies_true, a1, a2, a3, a4, a5, a6, a7, a8, a9, a10, a11, a12, f5])) (retW_is (hK xs _ R hacc rfl fun _ => pAdd_others e3 e4 _))
end Go.Aug
