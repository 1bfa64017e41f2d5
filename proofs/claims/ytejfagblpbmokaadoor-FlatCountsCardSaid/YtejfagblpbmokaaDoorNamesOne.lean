/- The contracts of the reference's names: keys, counts, what is well named, the index; conditions stand in each contract. -/
import Derived.Test.YtejfagblpbmokaaDoorParserThree
set_option linter.all false
set_option linter.unusedVariables false
set_option linter.unusedSimpArgs false
set_option linter.unusedSectionVars false

/- The layer of names: what an index is; the reference's small functions. -/
namespace Go.Aug
open Go.Proofs
set_option maxRecDepth 100000
set_option linter.unusedSimpArgs false
attribute [local irreducible] hid andK letA onSome onVar onArr arrOnly onInt onBool onTup idxA ldV ldD addO appTo fillL slA srcK nilQ retW gif sgd sguard svc sops sdops sagain aopO aLoad aStore aBin aUn aConv aLen aIndexAddr aIndex aIndexAddrS aIndexS aSlice aAppend aBuild aBuildSlice aMakeSlice aField aFieldOf aCallOp deepK deepL frzM putE newK newV growV ACall roundQ thenQ inBlockQ sret cnd szs nilC onMap onRow aLookup aMapUpdate aMakeMap
attribute [local go_sem] Int.natCast_zero
structure Ky where
 name : ByteArray
 ar : Int
 deriving DecidableEq, Inhabited
def Ky.cs (k : Ky) : List D := [.str k.name, .int .i64 k.ar]
def Ky.d (k : Ky) : D := .agg k.cs
def Ky.eqb (a b : Ky) : Bool := decide (a.name = b.name) && decide (a.ar = b.ar)
theorem Ky.eqb_iff (a b : Ky) : Ky.eqb a b = true ↔ a = b := by
 cases a; cases b; simp [Ky.eqb]
theorem list_at {α : Type} {l : List α} {k : Nat} (h : k < l.length) : ∃ x, l[k]? = some x := ⟨l[k], by simp [h]⟩
theorem drop_at {α : Type} {l : List α} {k : Nat} {x : α} (h : l[k]? = some x) : l.drop k = x :: l.drop (k + 1) := by
 obtain ⟨hk, rfl⟩ := List.getElem?_eq_some_iff.1 h
 exact List.drop_eq_getElem_cons hk
theorem drop_end {α : Type} {l : List α} {k : Nat} (h : l.length ≤ k) : l.drop k = [] := List.drop_eq_nil_of_le h
theorem It.opn (it : It) : ∃ x1 x2 x3 x4 x5 x6 x7 x8 x9 x10 x11 x12, it.body.cs = [x1, x2, x3, x4, x5, x6, x7, x8, x9, x10, x11, x12] ∧ it.d = .agg [.int .i64 it.kind, .str it.name, .slice (it.vars.map .str), .slice (it.ctors.map Ct.d), .slice (it.types.map Ty.d), .slice (it.ways.map .bool), .int .i64 it.det, .slice (it.args.map Tm.d), x1, x2, x3, x4, x5, x6, x7, x8, x9, x10, x11, x12] := by
 obtain ⟨x1, x2, x3, x4, x5, x6, x7, x8, x9, x10, x11, x12, h⟩ := it.body.opn
 exact ⟨_, _, _, _, _, _, _, _, _, _, _, _, h, by simp [It.d, It.cs, h]⟩
theorem in_ok {eb : EbG} (H : Heap) (l : List ByteArray) (hl : l.length ≤ 1048576) (s : ByteArray) (K : A → Heap → Prop) (hK : K (.d (.bool (l.any fun x => decide (x = s)))) H) :
  ACall Tryd.prog (seatV eb) 103 [.d (.slice (l.map .str)), .d (.str s)] H K := by
 refine ACall.by mixed fn103 (by simp) ?_
 conv in s103 => cbv
 refine svc_start ?_
 simp -dsimp only [go_sem, gS]
 refine svc_loop (X := Nat) (fun k => [(1, .d (.str s)), (7, .d (.slice (l.map .str))), (8, .d (.int .i64 l.length)), (9, .d (.int .i64 k))])
  (fun k G => G = H ∧ k ≤ l.length ∧ ((l.drop k).any fun x => decide (x = s)) = l.any fun x => decide (x = s)) (fun k => l.length - k) 0 _ ⟨rfl, by omega, rfl⟩ (by simp -dsimp only [go_sem, gS]) (.refl _) ?_
 rintro k G ⟨rfl, hk, hrun⟩
 simp -dsimp only [go_sem, gS]
 refine gif_split (fun g1 => ?_) (fun g1 => ?_)
 ·have g1' : k < l.length := by have := of_decide_eq_true g1; omega
  obtain ⟨x, hx⟩ := list_at g1'
  have hw := wrapN (k := k) (by omega)
  rw [drop_at hx, List.any_cons] at hrun
  simp -dsimp only [go_sem, gS, g1, hx]
  refine gif_split (fun g2 => ?_) (fun g2 => ?_)
  ·simp -dsimp only [go_sem, gS, g2]
   refine retW_is ?_
   rw [← hrun, g2] at hK; exact hK
  ·simp -dsimp only [go_sem, gS, g2, hw]
   refine roundQ_next (k + 1) _ ⟨rfl, g1', ?_⟩ (by omega) (by simp -dsimp only [go_sem, gS]) (.refl _)
   rw [← hrun, g2, Bool.false_or]
 ·rw [drop_end (by have := of_decide_eq_false g1; omega)] at hrun
  simp -dsimp only [go_sem, gS, g1]
  refine retW_is ?_
  rw [← hrun] at hK; exact hK
def sameWays : List Bool → List Bool → Bool
 | [], [] => true
 | a :: l, b :: m => (a == b) && sameWays l m
 | _, _ => false
theorem sameWays_iff : ∀ l m : List Bool, sameWays l m = true ↔ l = m
 | [], [] => by simp [sameWays]
 | a :: l, b :: m => by simp [sameWays, sameWays_iff l m]
 | [], _ :: _ => by simp [sameWays]
 | _ :: _, [] => by simp [sameWays]
theorem sameWays_len {l m : List Bool} (h : l.length ≠ m.length) : sameWays l m = false := by
 cases hs : sameWays l m with
 | false => rfl
 | true => rw [sameWays_iff] at hs; exact absurd (by rw [hs]) h
theorem ways_ok {eb : EbG} (H : Heap) (l m : List Bool) (hl : l.length ≤ 1048576) (K : A → Heap → Prop) (hK : K (.d (.bool (sameWays l m))) H) :
  ACall Tryd.prog (seatV eb) 81 [.d (.slice (l.map .bool)), .d (.slice (m.map .bool))] H K := by
 refine ACall.by mixed fn81 (by simp) ?_
 conv in s81 => cbv
 refine svc_start ?_
 simp -dsimp only [go_sem, gS]
 refine gif_split (fun g1 => ?_) (fun g1 => ?_)
 ·simp -dsimp only [go_sem, gS, g1]
  refine retW_is ?_
  rw [sameWays_len (by simp at g1; omega)] at hK; exact hK
 ·have hlm : l.length = m.length := by simp at g1; omega
  simp -dsimp only [go_sem, gS, g1]
  refine svc_loop (X := Nat) (fun k => [(0, .d (.slice (l.map .bool))), (1, .d (.slice (m.map .bool))), (12, .d (.int .i64 l.length)), (13, .d (.int .i64 k))])
   (fun k G => G = H ∧ k ≤ l.length ∧ sameWays (l.drop k) (m.drop k) = sameWays l m) (fun k => l.length - k) 0 _ ⟨rfl, by omega, rfl⟩ (by simp -dsimp only [go_sem, gS]) (.refl _) ?_
  rintro k G ⟨rfl, hk, hrun⟩
  simp -dsimp only [go_sem, gS]
  refine gif_split (fun g2 => ?_) (fun g2 => ?_)
  ·have g2' : k < l.length := by have := of_decide_eq_true g2; omega
   obtain ⟨x, hx⟩ := list_at g2'
   obtain ⟨y, hy⟩ := list_at (show k < m.length by omega)
   have hw := wrapN (k := k) (by omega)
   rw [drop_at hx, drop_at hy] at hrun
   simp only [sameWays] at hrun
   simp -dsimp only [go_sem, gS, g2, hx, hy]
   refine gif_split (fun g3 => ?_) (fun g3 => ?_)
   ·have g3' : (x == y) = false := by simpa using g3
    simp -dsimp only [go_sem, gS, g3]
    refine retW_is ?_
    rw [← hrun, g3'] at hK; exact hK
   ·have g3' : (x == y) = true := by simpa using g3
    simp -dsimp only [go_sem, gS, g3, hw]
    refine roundQ_next (k + 1) _ ⟨rfl, g2', ?_⟩ (by omega) (by simp -dsimp only [go_sem, gS]) (.refl _)
    rw [← hrun, g3', Bool.true_and]
  ·rw [drop_end (by have := of_decide_eq_false g2; omega), drop_end (by have := of_decide_eq_false g2; omega)] at hrun
   simp -dsimp only [go_sem, gS, g2]
   refine retW_is ?_
   rw [← hrun] at hK; exact hK
def keyOf (it : It) : Ky := if it.kind = 2 then ⟨it.name, it.types.length⟩ else if it.kind = 3 then ⟨it.name, it.ways.length⟩ else ⟨it.name, it.args.length⟩
theorem keyOf_ok {eb : EbG} (H : Heap) (it : It) (K : A → Heap → Prop) (hK : K (.d (keyOf it).d) H) :
  ACall Tryd.prog (seatV eb) 56 [.d it.d] H K := by
 obtain ⟨x1, x2, x3, x4, x5, x6, x7, x8, x9, x10, x11, x12, _, hd⟩ := it.opn
 rw [hd]
 refine ACall.hp_start ?_
 refine ACall.by mixed fn56 (by simp) ?_
 conv in s56 => cbv
 refine svc_start ?_
 simp -dsimp only [go_sem, gS]
 refine newK_hp (fun b1 f1 => ?_)
 simp only [off_cons, off_nil] at f1
 simp -dsimp only [go_sem, gS, f1]
 refine newK_hp (fun b2 f2 => ?_)
 simp only [off_cons, off_nil] at f2
 simp -dsimp only [go_sem, gS, f1, f2]
 have h1 : it.kind = 2 → K (.d (.agg [.str it.name, .int .i64 it.types.length])) H := fun e => by rw [keyOf, if_pos e] at hK; exact hK
 have h2 : it.kind ≠ 2 → it.kind = 3 → K (.d (.agg [.str it.name, .int .i64 it.ways.length])) H := fun e e' => by rw [keyOf, if_neg e, if_pos e'] at hK; exact hK
 have h3 : it.kind ≠ 2 → it.kind ≠ 3 → K (.d (.agg [.str it.name, .int .i64 it.args.length])) H := fun e e' => by rw [keyOf, if_neg e, if_neg e'] at hK; exact hK
 refine gif_split (fun g1 => ?_) (fun g1 => ?_)
 ·simp -dsimp only [go_sem, gS, g1, f1, f2]
  exact retW_drop (G := H) (leH_hp0 (by simp only [hpS, eq_self, implies_true, f1, f2])) (retW_is (h1 (of_decide_eq_true g1)))
 ·simp -dsimp only [go_sem, gS, g1, f1, f2]
  refine gif_split (fun g2 => ?_) (fun g2 => ?_)
  ·simp -dsimp only [go_sem, gS, g2, f1, f2]
   exact retW_drop (G := H) (leH_hp0 (by simp only [hpS, eq_self, implies_true, f1, f2])) (retW_is (h2 (of_decide_eq_false g1) (of_decide_eq_true g2)))
  ·simp -dsimp only [go_sem, gS, g2, f1, f2]
   exact retW_drop (G := H) (leH_hp0 (by simp only [hpS, eq_self, implies_true, f1, f2])) (retW_is (h3 (of_decide_eq_false g1) (of_decide_eq_false g2)))
end Go.Aug

/- The layer of names: how often things stand in a source. -/
namespace Go.Aug
open Go.Proofs
set_option maxRecDepth 100000
set_option linter.unusedSimpArgs false
attribute [local irreducible] hid andK letA onSome onVar onArr arrOnly onInt onBool onTup idxA ldV ldD addO appTo fillL slA srcK nilQ retW gif sgd sguard svc sops sdops sagain aopO aLoad aStore aBin aUn aConv aLen aIndexAddr aIndex aIndexAddrS aIndexS aSlice aAppend aBuild aBuildSlice aMakeSlice aField aFieldOf aCallOp deepK deepL frzM putE newK newV growV ACall roundQ thenQ inBlockQ sret cnd szs nilC onMap onRow aLookup aMapUpdate aMakeMap
attribute [local go_sem] Int.natCast_zero
def isOf (kind : Int) (k : Ky) (it : It) : Bool := decide (it.kind = kind) && Ky.eqb (keyOf it) k
def rcount (l : List It) (kind : Int) (k : Ky) : Nat := l.countP (isOf kind k)
theorem countP_le {α : Type} (p : α → Bool) (l : List α) : l.countP p ≤ l.length := List.countP_le_length
theorem count_ok {eb : EbG} (H : Heap) (l : List It) (hl : l.length ≤ 1048576) (kind : Int) (q : Ky) (K : A → Heap → Prop) (hK : K (.d (.int .i64 (rcount l kind q))) H) :
  ACall Tryd.prog (seatV eb) 106 [.d (.slice (l.map It.d)), .d (.int .i64 kind), .d q.d] H K := by
 refine ACall.hp_start ?_
 refine ACall.by mixed fn106 (by simp) ?_
 conv in s106 => cbv
 refine svc_start ?_
 simp -dsimp only [go_sem, gS, Ky.d, Ky.cs]
 refine newK_hp (fun b5 f5 => ?_)
 simp only [off_cons, off_nil] at f5
 simp -dsimp only [go_sem, gS, f5]
 refine svc_loop (X := Nat × Nat) (fun x => [(1, .d (.int .i64 kind)), (5, .ref b5 0), (7, .d (.int .i64 x.2)), (10, .d (.slice (l.map It.d))), (11, .d (.int .i64 l.length)), (12, .d (.int .i64 x.1))])
  (fun x G => G = hp H [(b5, .var [.d (.str q.name), .d (.int .i64 q.ar)])] ∧ x.1 ≤ l.length ∧ x.2 + (l.drop x.1).countP (isOf kind q) = rcount l kind q) (fun x => l.length - x.1) (0, 0) _ ⟨rfl, by omega, by simp [rcount]⟩ (by simp -dsimp only [go_sem, gS]) (.refl _) ?_
 rintro ⟨k, n⟩ G ⟨rfl, hk, hrun⟩
 simp only at hk hrun
 have htot : rcount l kind q ≤ l.length := countP_le _ _
 simp -dsimp only [go_sem, gS]
 refine gif_split (fun g1 => ?_) (fun g1 => ?_)
 ·have g1' : k < l.length := by have := of_decide_eq_true g1; omega
  obtain ⟨it, hx⟩ := list_at g1'
  have hw := wrapN (k := k) (by omega)
  have hwn := wrapN (k := n) (by omega)
  rw [drop_at hx, List.countP_cons] at hrun
  obtain ⟨x1, x2, x3, x4, x5, x6, x7, x8, x9, x10, x11, x12, _, hd⟩ := it.opn
  simp -dsimp only [go_sem, gS, g1, hx, hd]
  refine newK_hp (fun b9 f9 => ?_)
  simp only [off_cons, off_nil] at f9
  simp -dsimp only [go_sem, gS, f5, f9]
  refine gif_split (fun g2 => ?_) (fun g2 => ?_)
  ·simp -dsimp only [go_sem, gS, f5, f9, g2]
   rw [← hd]
   refine keyOf_ok _ it _ ?_
   simp -dsimp only [go_sem, gS, f5, f9, Ky.d, Ky.cs]
   refine gif_split (fun g3 => ?_) (fun g3 => ?_)
   ·have hy : isOf kind q it = true := by simp only [isOf, Ky.eqb, g2, Bool.true_and]; simpa using g3
    rw [hy] at hrun
    simp -dsimp only [go_sem, gS, f5, f9, hw, hwn]
    exact roundQ_next (k + 1, n + 1) _ ⟨rfl, g1', by rw [← hrun]; simp only [if_true]; omega⟩ (by simp only; omega) (by simp -dsimp only [go_sem, gS]) (leH_hp (by simp only [hpS, eq_self, implies_true, f5, f9]) (by simp only [hpS, eq_self, implies_true, f5, f9]))
   ·have hy : isOf kind q it = false := by simp only [isOf, Ky.eqb, g2, Bool.true_and]; simpa using g3
    rw [hy] at hrun
    simp -dsimp only [go_sem, gS, f5, f9, hw]
    exact roundQ_next (k + 1, n) _ ⟨rfl, g1', by rw [← hrun]; simp⟩ (by simp only; omega) (by simp -dsimp only [go_sem, gS]) (leH_hp (by simp only [hpS, eq_self, implies_true, f5, f9]) (by simp only [hpS, eq_self, implies_true, f5, f9]))
  ·have hy : isOf kind q it = false := by simp only [isOf, g2, Bool.false_and]
   rw [hy] at hrun
   simp -dsimp only [go_sem, gS, f5, f9, g2, hw]
   exact roundQ_next (k + 1, n) _ ⟨rfl, g1', by rw [← hrun]; simp⟩ (by simp only; omega) (by simp -dsimp only [go_sem, gS]) (leH_hp (by simp only [hpS, eq_self, implies_true, f5, f9]) (by simp only [hpS, eq_self, implies_true, f5, f9]))
 ·rw [drop_end (by have := of_decide_eq_false g1; omega)] at hrun
  have : n = rcount l kind q := by simpa using hrun
  subst this
  simp -dsimp only [go_sem, gS, g1]
  exact retW_drop (G := H) (leH_hp0 (by simp only [hpS, eq_self, implies_true, f5])) (retW_is hK)
def tyOf (name : ByteArray) (it : It) : Bool := decide (it.kind = 1) && decide (it.name = name)
def tyVars (name : ByteArray) (vars : Int) (it : It) : Bool := tyOf name it && decide ((it.vars.length : Int) = vars)
theorem types_ok {eb : EbG} (H : Heap) (l : List It) (hl : l.length ≤ 1048576) (name : ByteArray) (vars : Int) (K : A → Heap → Prop) (hK : K (.tup [.d (.int .i64 (l.countP (tyVars name vars))), .d (.int .i64 (l.countP (tyOf name)))]) H) :
  ACall Tryd.prog (seatV eb) 102 [.d (.slice (l.map It.d)), .d (.str name), .d (.int .i64 vars)] H K := by
 refine ACall.hp_start ?_
 refine ACall.by mixed fn102 (by simp) ?_
 conv in s102 => cbv
 refine svc_start ?_
 simp -dsimp only [go_sem, gS]
 refine svc_loop (X := Nat × Nat × Nat) (fun x => [(1, .d (.str name)), (2, .d (.int .i64 vars)), (8, .d (.int .i64 x.2.1)), (9, .d (.int .i64 x.2.2)), (12, .d (.slice (l.map It.d))), (13, .d (.int .i64 l.length)), (14, .d (.int .i64 x.1))])
  (fun x G => G = hp H [] ∧ x.1 ≤ l.length ∧ x.2.1 + (l.drop x.1).countP (tyVars name vars) = l.countP (tyVars name vars) ∧ x.2.2 + (l.drop x.1).countP (tyOf name) = l.countP (tyOf name)) (fun x => l.length - x.1) (0, 0, 0) _ ⟨rfl, by omega, by simp, by simp⟩ (by simp -dsimp only [go_sem, gS]) (.refl _) ?_
 rintro ⟨k, n, m⟩ G ⟨hG, hk, hn, hm⟩
 rw [hG]
 simp only at hk hn hm
 have ht1 := countP_le (tyVars name vars) l
 have ht2 := countP_le (tyOf name) l
 simp -dsimp only [go_sem, gS]
 refine gif_split (fun g1 => ?_) (fun g1 => ?_)
 ·have g1' : k < l.length := by have := of_decide_eq_true g1; omega
  obtain ⟨it, hx⟩ := list_at g1'
  have hw := wrapN (k := k) (by omega)
  have hwn := wrapN (k := n) (by omega)
  have hwm := wrapN (k := m) (by omega)
  rw [drop_at hx, List.countP_cons] at hn hm
  obtain ⟨x1, x2, x3, x4, x5, x6, x7, x8, x9, x10, x11, x12, _, hd⟩ := it.opn
  have hno : tyOf name it = false → l.countP (tyVars name vars) = n + (l.drop (k + 1)).countP (tyVars name vars) ∧ l.countP (tyOf name) = m + (l.drop (k + 1)).countP (tyOf name) := fun h => by
   have h' : tyVars name vars it = false := by simp [tyVars, h]
   rw [h'] at hn; rw [h] at hm
   exact ⟨by rw [← hn]; simp, by rw [← hm]; simp⟩
  simp -dsimp only [go_sem, gS, g1, hx, hd]
  refine newK_hp (fun b11 f11 => ?_)
  simp only [off_cons, off_nil] at f11
  simp -dsimp only [go_sem, gS, f11]
  refine gif_split (fun g2 => ?_) (fun g2 => ?_)
  ·simp -dsimp only [go_sem, gS, f11, g2]
   refine gif_split (fun g3 => ?_) (fun g3 => ?_)
   ·have hy : tyOf name it = true := by simp only [tyOf, g2, g3, Bool.true_and]
    rw [hy] at hm
    simp -dsimp only [go_sem, gS, f11, g3, hwm]
    refine gif_split (fun g4 => ?_) (fun g4 => ?_)
    ·have hy2 : tyVars name vars it = true := by simp only [tyVars, hy, g4, Bool.true_and]
     rw [hy2] at hn
     simp -dsimp only [go_sem, gS, f11, g4, hwn, hw]
     exact roundQ_next (k + 1, n + 1, m + 1) _ ⟨rfl, g1', by rw [← hn]; simp only [if_true]; omega, by rw [← hm]; simp only [if_true]; omega⟩ (by simp only; omega) (by simp -dsimp only [go_sem, gS]) (leH_hp (by simp only [hpS, eq_self, implies_true, f11]) (by simp only [hpS, eq_self, implies_true, f11]))
    ·have hy2 : tyVars name vars it = false := by simp only [tyVars, hy, g4, Bool.true_and]
     rw [hy2] at hn
     simp -dsimp only [go_sem, gS, f11, g4, hw]
     exact roundQ_next (k + 1, n, m + 1) _ ⟨rfl, g1', by rw [← hn]; simp, by rw [← hm]; simp only [if_true]; omega⟩ (by simp only; omega) (by simp -dsimp only [go_sem, gS]) (leH_hp (by simp only [hpS, eq_self, implies_true, f11]) (by simp only [hpS, eq_self, implies_true, f11]))
   ·have hy : tyOf name it = false := by simp only [tyOf, g2, g3, Bool.true_and]
    simp -dsimp only [go_sem, gS, f11, g3, hw]
    exact roundQ_next (k + 1, n, m) _ ⟨rfl, g1', (hno hy).1.symm, (hno hy).2.symm⟩ (by simp only; omega) (by simp -dsimp only [go_sem, gS]) (leH_hp (by simp only [hpS, eq_self, implies_true, f11]) (by simp only [hpS, eq_self, implies_true, f11]))
  ·have hy : tyOf name it = false := by simp only [tyOf, g2, Bool.false_and]
   simp -dsimp only [go_sem, gS, f11, g2, hw]
   exact roundQ_next (k + 1, n, m) _ ⟨rfl, g1', (hno hy).1.symm, (hno hy).2.symm⟩ (by simp only; omega) (by simp -dsimp only [go_sem, gS]) (leH_hp (by simp only [hpS, eq_self, implies_true, f11]) (by simp only [hpS, eq_self, implies_true, f11]))
 ·rw [drop_end (by have := of_decide_eq_false g1; omega)] at hn hm
  have h1 : n = l.countP (tyVars name vars) := by simpa using hn
  have h2 : m = l.countP (tyOf name) := by simpa using hm
  rw [← h1, ← h2] at hK
  simp -dsimp only [go_sem, gS, g1]
  exact retW_drop (G := H) (leH_hp0 (by simp only [hpS, eq_self, implies_true, ])) (retW_is hK)
def ctOf (q : Ky) (c : Ct) : Bool := decide (c.name = q.name) && decide ((c.args.length : Int) = q.ar)
def rctors (l : List It) (q : Ky) : Nat := (l.map fun it => if it.kind = 1 then it.ctors.countP (ctOf q) else 0).sum
theorem rctors_cons (it : It) (l : List It) (q : Ky) : rctors (it :: l) q = (if it.kind = 1 then it.ctors.countP (ctOf q) else 0) + rctors l q := by simp [rctors]
theorem sum_le {α : Type} (f : α → Nat) (B : Nat) : ∀ l : List α, (∀ x ∈ l, f x ≤ B) → (l.map f).sum ≤ l.length * B
 | [], _ => by simp
 | x :: l, h => by
  have h1 := h x (.head _)
  have h2 := sum_le f B l fun y hy => h y (.tail _ hy)
  simp only [List.map_cons, List.sum_cons, List.length_cons, Nat.add_mul]; omega
theorem ctors_ok {eb : EbG} (H : Heap) (l : List It) (hl : l.length ≤ 1048576) (hc : ∀ it ∈ l, it.ctors.length ≤ 32768) (q : Ky) (K : A → Heap → Prop) (hK : K (.d (.int .i64 (rctors l q))) H) :
  ACall Tryd.prog (seatV eb) 104 [.d (.slice (l.map It.d)), .d q.d] H K := by
 have htot : rctors l q ≤ 34359738368 := by
  have := sum_le (fun it : It => if it.kind = 1 then it.ctors.countP (ctOf q) else 0) 32768 l fun it hit => by
   have := countP_le (ctOf q) it.ctors
   have := hc it hit
   split <;> omega
  have h2 : l.length * 32768 ≤ 1048576 * 32768 := Nat.mul_le_mul_right _ hl
  simp only [rctors]; omega
 refine ACall.hp_start ?_
 refine ACall.by mixed fn104 (by simp) ?_
 conv in s104 => cbv
 refine svc_start ?_
 simp -dsimp only [go_sem, gS, Ky.d, Ky.cs]
 refine newK_hp (fun b3 f3 => ?_)
 simp only [off_cons, off_nil] at f3
 simp -dsimp only [go_sem, gS, f3]
 refine svc_loop (X := Nat × Nat) (fun x => [(3, .ref b3 0), (5, .d (.int .i64 x.2)), (10, .d (.slice (l.map It.d))), (11, .d (.int .i64 l.length)), (12, .d (.int .i64 x.1))])
  (fun x G => G = hp H [(b3, .var [.d (.str q.name), .d (.int .i64 q.ar)])] ∧ x.1 ≤ l.length ∧ x.2 + rctors (l.drop x.1) q = rctors l q) (fun x => l.length - x.1) (0, 0) _ ⟨rfl, by omega, by simp⟩ (by simp -dsimp only [go_sem, gS]) (.refl _) ?_
 rintro ⟨k, n⟩ G ⟨rfl, hk, hrun⟩
 simp only at hk hrun
 simp -dsimp only [go_sem, gS]
 refine gif_split (fun g1 => ?_) (fun g1 => ?_)
 ·have g1' : k < l.length := by have := of_decide_eq_true g1; omega
  obtain ⟨it, hx⟩ := list_at g1'
  have hw := wrapN (k := k) (by omega)
  rw [drop_at hx, rctors_cons] at hrun
  have hcl := hc it (List.mem_of_getElem? hx)
  obtain ⟨x1, x2, x3, x4, x5, x6, x7, x8, x9, x10, x11, x12, _, hd⟩ := it.opn
  simp -dsimp only [go_sem, gS, g1, hx, hd]
  refine newK_hp (fun b7 f7 => ?_)
  simp only [off_cons, off_nil] at f7
  simp -dsimp only [go_sem, gS, f3, f7]
  refine gif_split (fun g2 => ?_) (fun g2 => ?_)
  ·have g2' : ¬ it.kind = 1 := by simpa using g2
   rw [if_neg g2'] at hrun
   simp -dsimp only [go_sem, gS, f3, f7, g2, hw]
   exact roundQ_next (k + 1, n) _ ⟨rfl, g1', by simp only; omega⟩ (by simp only; omega) (by simp -dsimp only [go_sem, gS]) (leH_hp (by simp only [hpS, eq_self, implies_true, f3, f7]) (by simp only [hpS, eq_self, implies_true, f3, f7]))
  ·have g2' : it.kind = 1 := by simpa using g2
   rw [if_pos g2'] at hrun
   simp -dsimp only [go_sem, gS, f3, f7, g2]
   refine svc_loop (X := Nat × Nat) (fun x => [(3, .ref b3 0), (5, .d (.int .i64 x.2)), (10, .d (.slice (l.map It.d))), (11, .d (.int .i64 l.length)), (12, .d (.int .i64 k)), (20, .d (.slice (it.ctors.map Ct.d))), (21, .d (.int .i64 it.ctors.length)), (22, .d (.int .i64 x.1))])
    (fun x G => G = hp H [(b3, .var [.d (.str q.name), .d (.int .i64 q.ar)])] ∧ x.1 ≤ it.ctors.length ∧ x.2 + (it.ctors.drop x.1).countP (ctOf q) = n + it.ctors.countP (ctOf q)) (fun x => it.ctors.length - x.1) (0, n) _ ⟨rfl, by omega, by simp⟩ (by simp -dsimp only [go_sem, gS]) (leH_hp (by simp only [hpS, eq_self, implies_true, f3, f7]) (by simp only [hpS, eq_self, implies_true, f3, f7])) ?_
   rintro ⟨j, m⟩ G ⟨rfl, hj, hin⟩
   simp only at hj hin
   simp -dsimp only [go_sem, gS]
   refine gif_split (fun g3 => ?_) (fun g3 => ?_)
   ·have g3' : j < it.ctors.length := by have := of_decide_eq_true g3; omega
    obtain ⟨c, hy⟩ := list_at g3'
    have hwj := wrapN (k := j) (by omega)
    have hwm := wrapN (k := m) (by omega)
    rw [drop_at hy, List.countP_cons] at hin
    simp -dsimp only [go_sem, gS, g3, hy, Ct.d, Ct.cs]
    refine newK_hp (fun b9 f9 => ?_)
    simp only [off_cons, off_nil] at f9
    simp -dsimp only [go_sem, gS, f3, f9]
    refine gif_split (fun g4 => ?_) (fun g4 => ?_)
    ·simp -dsimp only [go_sem, gS, f3, f9, g4]
     refine gif_split (fun g5 => ?_) (fun g5 => ?_)
     ·have hyy : ctOf q c = true := by simp only [ctOf, g4, g5, Bool.true_and]
      rw [hyy] at hin
      simp -dsimp only [go_sem, gS, f3, f9, g5, hwj, hwm]
      exact roundQ_next (j + 1, m + 1) _ ⟨rfl, g3', by simp only [if_true] at hin; simp only; omega⟩ (by simp only; omega) (by simp -dsimp only [go_sem, gS]) (leH_hp (by simp only [hpS, eq_self, implies_true, f3, f9]) (by simp only [hpS, eq_self, implies_true, f3, f9]))
     ·have hyy : ctOf q c = false := by simp only [ctOf, g4, g5, Bool.true_and]
      rw [hyy] at hin
      simp -dsimp only [go_sem, gS, f3, f9, g5, hwj]
      exact roundQ_next (j + 1, m) _ ⟨rfl, g3', by rw [← hin]; simp⟩ (by simp only; omega) (by simp -dsimp only [go_sem, gS]) (leH_hp (by simp only [hpS, eq_self, implies_true, f3, f9]) (by simp only [hpS, eq_self, implies_true, f3, f9]))
    ·have hyy : ctOf q c = false := by simp only [ctOf, g4, Bool.false_and]
     rw [hyy] at hin
     simp -dsimp only [go_sem, gS, f3, f9, g4, hwj]
     exact roundQ_next (j + 1, m) _ ⟨rfl, g3', by rw [← hin]; simp⟩ (by simp only; omega) (by simp -dsimp only [go_sem, gS]) (leH_hp (by simp only [hpS, eq_self, implies_true, f3, f9]) (by simp only [hpS, eq_self, implies_true, f3, f9]))
   ·rw [drop_end (by have := of_decide_eq_false g3; omega)] at hin
    have hm : m = n + it.ctors.countP (ctOf q) := by simpa using hin
    simp -dsimp only [go_sem, gS, g3, hw]
    exact roundQ_next (k + 1, m) _ ⟨rfl, g1', by rw [hm]; simp only; omega⟩ (by simp only; omega) (by simp -dsimp only [go_sem, gS]) (leH_hp (by simp only [hpS, eq_self, implies_true, f3]) (by simp only [hpS, eq_self, implies_true, f3]))
 ·rw [drop_end (by have := of_decide_eq_false g1; omega)] at hrun
  have : n = rctors l q := by simpa [rctors] using hrun
  subst this
  simp -dsimp only [go_sem, gS, g1]
  exact retW_drop (G := H) (leH_hp0 (by simp only [hpS, eq_self, implies_true, f3])) (retW_is hK)
end Go.Aug
