/- The contracts of flat goals, and of what an index has; conditions stand in each contract. -/
import Derived.Test.YtejfagblpbmokaaDoorNamesTwo
import Derived.Test.YtejfagblpbmokaaDoorAugEight
set_option linter.all false
set_option linter.unusedVariables false
set_option linter.unusedSimpArgs false
set_option linter.unusedSectionVars false

/- Flat goals: the numbering of a clause's variables. -/
namespace Go.Aug
open Go.Proofs
set_option maxRecDepth 100000
set_option linter.unusedSimpArgs false
attribute [local irreducible] hid andK letA onSome onVar onArr arrOnly onInt onBool onFunc onTup idxA ldV ldD addO appTo fillL slA srcK nilQ retW gif sgd sguard svc sops sdops sagain aopO aLoad aStore aBin aUn aConv aLen aIndexAddr aIndex aIndexAddrS aIndexS aSlice aAppend aBuild aBuildSlice aMakeSlice aField aFieldOf aCallOp deepK deepL frzM putE newK newV growV ACall roundQ thenQ inBlockQ sret cnd szs nilC onMap onRow aLookup aMapUpdate aMakeMap
attribute [local go_sem] Int.natCast_zero
def enc (m : List (ByteArray × Nat)) : List (D × D) := m.map fun p => (.str p.1, .int .i64 p.2)
def nfind : List (ByteArray × Nat) → ByteArray → Option Nat
 | [], _ => none
 | (a, v) :: m, n => if n = a then some v else nfind m n
def nput : List (ByteArray × Nat) → ByteArray → Nat → List (ByteArray × Nat)
 | [], n, v => [(n, v)]
 | (a, w) :: m, n, v => if n = a then (a, v) :: m else (a, w) :: nput m n v
theorem mget_enc (n : ByteArray) : ∀ m : List (ByteArray × Nat), mget (enc m) (.str n) = (nfind m n).map fun (v : Nat) => D.int .i64 (v : Int)
 | [] => rfl
 | (a, v) :: m => by
  simp only [enc, List.map_cons, mget, keq, leq, nfind, decide_eq_true_eq]
  split
  ·rfl
  ·exact mget_enc n m
theorem mput_enc (n : ByteArray) (v : Nat) : ∀ m : List (ByteArray × Nat), mput (enc m) (.str n) (.int .i64 v) = enc (nput m n v)
 | [] => rfl
 | (a, w) :: m => by
  simp only [enc, List.map_cons, mput, keq, leq, nput, decide_eq_true_eq]
  split
  ·rfl
  ·rw [List.map_cons]; congr 1; exact mput_enc n v m
end Go.Aug

/- Flat goals: the row of a number and a term. -/
namespace Go.Aug
open Go.Proofs
set_option maxRecDepth 100000
set_option linter.unusedSimpArgs false
attribute [local irreducible] hid andK letA onSome onVar onArr arrOnly onInt onBool onFunc onTup idxA ldV ldD addO appTo fillL slA srcK nilQ retW gif sgd sguard svc sops sdops sagain aopO aLoad aStore aBin aUn aConv aLen aIndexAddr aIndex aIndexAddrS aIndexS aSlice aAppend aBuild aBuildSlice aMakeSlice aField aFieldOf aCallOp deepK deepL frzM putE newK newV growV ACall roundQ thenQ inBlockQ sret cnd szs nilC onMap onRow aLookup aMapUpdate aMakeMap
attribute [local go_sem] Int.natCast_zero
mutual
def Tm.nodes : Tm → Nat
 | .mk _ _ _ xs => 1 + Tm.nodess xs
def Tm.nodess : List Tm → Nat
 | [] => 0
 | t :: ts => t.nodes + Tm.nodess ts
end
theorem Tm.nodes_pos (t : Tm) : 1 ≤ t.nodes := by cases t; simp only [Tm.nodes]; omega
end Go.Aug

/- Flat goals: the row of a number and a term: the walk. -/
namespace Go.Aug
open Go.Proofs
set_option maxRecDepth 100000
set_option linter.unusedSimpArgs false
attribute [local irreducible] hid andK letA onSome onVar onArr arrOnly onInt onBool onFunc onTup idxA ldV ldD addO appTo fillL slA srcK nilQ retW gif sgd sguard svc sops sdops sagain aopO aLoad aStore aBin aUn aConv aLen aIndexAddr aIndex aIndexAddrS aIndexS aSlice aAppend aBuild aBuildSlice aMakeSlice aField aFieldOf aCallOp deepK deepL frzM putE newK newV growV ACall roundQ thenQ inBlockQ sret cnd szs nilC onMap onRow aLookup aMapUpdate aMakeMap
attribute [local go_sem] Int.natCast_zero
end Go.Aug

/- Flat goals: places, wholes, unifications. -/
namespace Go.Aug
open Go.Proofs
set_option maxRecDepth 100000
set_option linter.unusedSimpArgs false
attribute [local irreducible] hid andK letA onSome onVar onArr arrOnly onInt onBool onFunc onTup idxA ldV ldD addO appTo fillL slA srcK nilQ retW gif sgd sguard svc sops sdops sagain aopO aLoad aStore aBin aUn aConv aLen aIndexAddr aIndex aIndexAddrS aIndexS aSlice aAppend aBuild aBuildSlice aMakeSlice aField aFieldOf aCallOp deepK deepL frzM putE newK newV growV ACall roundQ thenQ inBlockQ sret cnd szs nilC onMap onRow aLookup aMapUpdate aMakeMap
attribute [local go_sem] Int.natCast_zero
end Go.Aug

/- Flat goals: what a goal comes to. -/
namespace Go.Aug
open Go.Proofs
set_option maxRecDepth 100000
set_option linter.unusedSimpArgs false
attribute [local irreducible] hid andK letA onSome onVar onArr arrOnly onInt onBool onFunc onTup idxA ldV ldD addO appTo fillL slA srcK nilQ retW gif sgd sguard svc sops sdops sagain aopO aLoad aStore aBin aUn aConv aLen aIndexAddr aIndex aIndexAddrS aIndexS aSlice aAppend aBuild aBuildSlice aMakeSlice aField aFieldOf aCallOp deepK deepL frzM putE newK newV growV ACall roundQ thenQ inBlockQ sret cnd szs nilC onMap onRow aLookup aMapUpdate aMakeMap
attribute [local go_sem] Int.natCast_zero
mutual
def Gl.nodes : Gl → Nat
 | .mk _ a b _ xs gs => 1 + a.nodes + b.nodes + Tm.nodess xs + Gl.nodess gs
def Gl.nodess : List Gl → Nat
 | [] => 0
 | g :: gs => g.nodes + Gl.nodess gs
end
theorem Gl.nodes_pos (g : Gl) : 1 ≤ g.nodes := by cases g; simp only [Gl.nodes]; omega
end Go.Aug

/- Flat goals: the row of what goals come to. -/
namespace Go.Aug
open Go.Proofs
set_option maxRecDepth 100000
set_option linter.unusedSimpArgs false
attribute [local irreducible] hid andK letA onSome onVar onArr arrOnly onInt onBool onFunc onTup idxA ldV ldD addO appTo fillL slA srcK nilQ retW gif sgd sguard svc sops sdops sagain aopO aLoad aStore aBin aUn aConv aLen aIndexAddr aIndex aIndexAddrS aIndexS aSlice aAppend aBuild aBuildSlice aMakeSlice aField aFieldOf aCallOp deepK deepL frzM putE newK newV growV ACall roundQ thenQ inBlockQ sret cnd szs nilC onMap onRow aLookup aMapUpdate aMakeMap
attribute [local go_sem] Int.natCast_zero
end Go.Aug

/- Flat goals: a goal. -/
namespace Go.Aug
open Go.Proofs
set_option maxRecDepth 100000
set_option linter.unusedSimpArgs false
attribute [local irreducible] hid andK letA onSome onVar onArr arrOnly onInt onBool onFunc onTup idxA ldV ldD addO appTo fillL slA srcK nilQ retW gif sgd sguard svc sops sdops sagain aopO aLoad aStore aBin aUn aConv aLen aIndexAddr aIndex aIndexAddrS aIndexS aSlice aAppend aBuild aBuildSlice aMakeSlice aField aFieldOf aCallOp deepK deepL frzM putE newK newV growV ACall roundQ thenQ inBlockQ sret cnd szs nilC onMap onRow aLookup aMapUpdate aMakeMap
attribute [local go_sem] Int.natCast_zero
end Go.Aug

/- The names of the program: predicates that an index has; predicates that are built in. -/
namespace Go.Aug
open Nat renaming reduceBEq → zA, reduceLT → zB, reduceAdd → zC, reduceSub → zD, reduceMul → zE, reduceLeDiff → zF
open Int renaming reduceLE → zG
open Go.Proofs
set_option maxRecDepth 100000
set_option linter.unusedSimpArgs false
attribute [local irreducible] hid andK letA onSome onVar onArr arrOnly onInt onBool onFunc onTup idxA ldV ldD addO appTo fillL slA srcK nilQ retW gif sgd sguard svc sops sdops sagain aopO aLoad aStore aBin aUn aConv aLen aIndexAddr aIndex aIndexAddrS aIndexS aSlice aAppend aBuild aBuildSlice aMakeSlice aField aFieldOf aCallOp deepK deepL frzM putE newK newV growV ACall roundQ thenQ inBlockQ sret cnd szs nilC onMap onRow aLookup aMapUpdate aMakeMap
attribute [local go_sem] Int.natCast_zero
def fidx {α : Type} (p : α → Bool) : List α → Option Nat
 | [] => none
 | x :: xs => if p x = true then some 0 else (fidx p xs).map (· + 1)
def idxI (o : Option Nat) : Int := match o with | some i => (i : Int) | none => -1
theorem index36_ok {eb : EbG} (l : List Pr) (hl : l.length ≤ 1048576) (f : FuncId) (caps : List A) (hf : callable Tryd.prog f = true) (p : Pr → Bool) (H : Heap)
  (hc : ∀ x ∈ l, ∀ K : A → Heap → Prop, K (.d (.bool (p x))) H → ACall Tryd.prog (seatV eb) f (.d x.d :: caps) H K) (K : A → Heap → Prop) (hK : K (.d (.int .i64 (idxI (fidx p l)))) H) :
  ACall Tryd.prog (seatV eb) 119 [.d (.slice (l.map Pr.d)), .func f caps] H K := by
 refine ACall.by mixed fn119 (by simp) ?_
 conv in s119 => cbv
 refine svc_start ?_
 simp -dsimp (maxDischargeDepth := 9) only [go_sem, zA, zB, zC, zD, zE, zF, zG, gS]
 refine svc_loop (X := Nat) (fun k => [(0, .d (.slice (l.map Pr.d))), (1, .func f caps), (7, .d (.int .i64 l.length)), (8, .d (.int .i64 k))])
  (fun k G => G = H ∧ k ≤ l.length ∧ (fidx p (l.drop k)).map (· + k) = fidx p l) (fun k => l.length - k) 0 _ ⟨rfl, by omega, by simp⟩ (by simp -dsimp (maxDischargeDepth := 9) only [go_sem, zA, zB, zC, zD, zE, zF, zG, gS]) (.refl _) ?_
 rintro k G ⟨hG, hk, hrun⟩
 subst hG
 simp -dsimp (maxDischargeDepth := 9) only [go_sem, zA, zB, zC, zD, zE, zF, zG, gS]
 refine gif_split (fun g1 => ?_) (fun g1 => ?_)
 ·have g1' : k < l.length := by have := of_decide_eq_true g1; omega
  obtain ⟨x, hx⟩ := list_at g1'
  have hwj := wrapN (k := k) (by omega)
  rw [drop_at hx] at hrun
  simp only [fidx] at hrun
  have hcx := hc x (List.mem_of_getElem? hx)
  obtain ⟨⟨kn, ka⟩, ts, ms, cs⟩ := x
  simp -dsimp (maxDischargeDepth := 9) only [go_sem, zA, zB, zC, zD, zE, zF, zG, gS, g1, hx, Pr.d, Pr.cs, hf, List.cons_append, List.nil_append]
  refine hcx _ ?_
  simp -dsimp (maxDischargeDepth := 9) only [go_sem, zA, zB, zC, zD, zE, zF, zG, gS]
  refine gif_split (fun g2 => ?_) (fun g2 => ?_)
  ·simp only [if_pos g2, Option.map_some, Nat.zero_add] at hrun
   rw [← hrun] at hK
   simp -dsimp (maxDischargeDepth := 9) only [go_sem, zA, zB, zC, zD, zE, zF, zG, gS, g2]
   exact retW_is hK
  ·have g2' : ¬ p ⟨⟨kn, ka⟩, ts, ms, cs⟩ = true := by rw [g2]; exact Bool.false_ne_true
   rw [if_neg g2', Option.map_map] at hrun
   simp -dsimp (maxDischargeDepth := 9) only [go_sem, zA, zB, zC, zD, zE, zF, zG, gS, g2, hwj]
   exact roundQ_next (k + 1) _ ⟨rfl, g1', by rw [← hrun]; congr 1; funext i; simp only [Function.comp]; omega⟩ (by omega) (by simp -dsimp (maxDischargeDepth := 9) only [go_sem, zA, zB, zC, zD, zE, zF, zG, gS]) (.refl _)
 ·rw [drop_end (by have := of_decide_eq_false g1; omega)] at hrun
  rw [← hrun] at hK
  simp -dsimp (maxDischargeDepth := 9) only [go_sem, zA, zB, zC, zD, zE, zF, zG, gS, g1]
  exact retW_is hK
theorem fidx_any {α : Type} {p : α → Bool} : ∀ {l : List α}, (fidx p l).isSome = l.any p
 | [] => rfl
 | x :: xs => by
  simp only [fidx, List.any_cons]
  split
  ·rename_i e; simp [e]
  ·rename_i e; rw [show p x = false by simpa using e, Bool.false_or, ← fidx_any]; cases fidx p xs <;> rfl
theorem contains36_ok {eb : EbG} (l : List Pr) (hl : l.length ≤ 1048576) (f : FuncId) (caps : List A) (hf : callable Tryd.prog f = true) (p : Pr → Bool) (H : Heap)
  (hc : ∀ x ∈ l, ∀ K : A → Heap → Prop, K (.d (.bool (p x))) H → ACall Tryd.prog (seatV eb) f (.d x.d :: caps) H K) (K : A → Heap → Prop) (hK : K (.d (.bool (l.any p))) H) :
  ACall Tryd.prog (seatV eb) 64 [.d (.slice (l.map Pr.d)), .func f caps] H K := by
 refine ACall.by mixed fn64 (by simp) ?_
 conv in s64 => cbv
 refine svc_start ?_
 simp -dsimp (maxDischargeDepth := 9) only [go_sem, zA, zB, zC, zD, zE, zF, zG, gS]
 refine index36_ok l hl f caps hf p H hc _ ?_
 have hq : decide (idxI (fidx p l) ≥ 0) = l.any p := by
  rw [← fidx_any]; cases fidx p l <;> simp [idxI]
 simp -dsimp (maxDischargeDepth := 9) only [go_sem, zA, zB, zC, zD, zE, zF, zG, gS]
 change retW _ (.d (.bool (decide (idxI (fidx p l) ≥ 0)))) _ _
 rw [hq]
 exact retW_is hK
theorem builtin_ok {eb : EbG} (H : Heap) (q : Ky) (K : A → Heap → Prop) (hK : K (.d (.bool (isBuiltin q))) H) :
  ACall Tryd.prog (seatV eb) 24 [.d q.d] H K := by
 refine ACall.hp_start ?_
 refine ACall.by mixed fn24 (by simp) ?_
 conv in s24 => cbv
 refine svc_start ?_
 simp -dsimp (maxDischargeDepth := 9) only [go_sem, zA, zB, zC, zD, zE, zF, zG, gS, Ky.d, Ky.cs]
 refine newK_hp (fun b1 f1 => ?_)
 simp only [off_cons, off_nil] at f1
 simp -dsimp (maxDischargeDepth := 9) only [go_sem, zA, zB, zC, zD, zE, zF, zG, gS, f1]
 refine builtins50_ok _ _ ?_
 have hlen : builtinsL.length ≤ 1048576 := by show 7 ≤ _; decide
 unfold isBuiltin at hK
 generalize builtinsL = l at hlen hK ⊢
 simp -dsimp (maxDischargeDepth := 9) only [go_sem, zA, zB, zC, zD, zE, zF, zG, gS, f1]
 refine contains36_ok l hlen 65 _ (by kernel_rfl) (fun x => Ky.eqb x.key q) _ (fun x hx K hK => ?_) _ ?_
 ·obtain ⟨⟨kn, ka⟩, ts, ms, cs⟩ := x
  refine ACall.by mixed fn65 (by simp) ?_
  conv in s65 => cbv
  refine svc_start ?_
  simp -dsimp (maxDischargeDepth := 9) only [go_sem, zA, zB, zC, zD, zE, zF, zG, gS, f1, Pr.d, Pr.cs, List.cons_append, List.nil_append]
  refine newK_hp (fun b2 f2 => ?_)
  simp only [off_cons, off_nil] at f2
  simp -dsimp (maxDischargeDepth := 9) only [go_sem, zA, zB, zC, zD, zE, zF, zG, gS, f1, f2]
  exact retW_drop (G := hp H [(b1, .var [.d (.str q.name), .d (.int .i64 q.ar)])]) (leH_hp (by simp only [hpS, eq_self, implies_true, f1, f2]) (by simp only [hpS, eq_self, implies_true, f1, f2])) (retW_is hK)
 ·simp -dsimp (maxDischargeDepth := 9) only [go_sem, zA, zB, zC, zD, zE, zF, zG, gS, f1]
  exact retW_drop (G := H) (leH_hp0 (by simp only [hpS, eq_self, implies_true, f1])) (retW_is hK)
end Go.Aug

/- Flat predicates: Flatten of the program. -/
namespace Go.Aug
open Go.Proofs
set_option maxRecDepth 100000
set_option linter.unusedSimpArgs false
attribute [local irreducible] hid andK letA onSome onVar onArr arrOnly onInt onBool onFunc onTup idxA ldV ldD addO appTo fillL slA srcK nilQ retW gif sgd sguard svc sops sdops sagain aopO aLoad aStore aBin aUn aConv aLen aIndexAddr aIndex aIndexAddrS aIndexS aSlice aAppend aBuild aBuildSlice aMakeSlice aField aFieldOf aCallOp deepK deepL frzM putE newK newV growV ACall roundQ thenQ inBlockQ sret cnd szs nilC onMap onRow aLookup aMapUpdate aMakeMap
attribute [local go_sem] Int.natCast_zero
theorem eqn_some {R : Heap} {b c : Nat} {o : AObj} (h1 : R b = some o) (h2 : R c = none) : eqn b c = false ∧ eqn c b = false := by
 have h : b ≠ c := by rintro rfl; rw [h1] at h2; cases h2
 exact ⟨eqn_ne h, eqn_ne h.symm⟩
end Go.Aug

/- Flat goals: a goal's own variables. -/
namespace Go.Aug
open Go.Proofs
set_option maxRecDepth 100000
set_option linter.unusedSimpArgs false
attribute [local irreducible] hid andK letA onSome onVar onArr arrOnly onInt onBool onFunc onTup idxA ldV ldD addO appTo fillL slA srcK nilQ retW gif sgd sguard svc sops sdops sagain aopO aLoad aStore aBin aUn aConv aLen aIndexAddr aIndex aIndexAddrS aIndexS aSlice aAppend aBuild aBuildSlice aMakeSlice aField aFieldOf aCallOp deepK deepL frzM putE newK newV growV ACall roundQ thenQ inBlockQ sret cnd szs nilC onMap onRow aLookup aMapUpdate aMakeMap
attribute [local go_sem] Int.natCast_zero
end Go.Aug

/- A bound on what is read: each node takes a place. -/
namespace Go.Aug
open Go.Proofs
set_option maxRecDepth 100000
set_option linter.unusedSimpArgs false
end Go.Aug

/- What a text's items and index are: bounds for what Flatten asks. -/
namespace Go.Aug
open Go.Proofs
set_option maxRecDepth 100000
set_option linter.unusedSimpArgs false
/-- The index of well named items, in one. -/
def tysOf (l : List It) : List It := l.filter fun it => decide (it.kind = 1)
def psOf (l : List It) : List It := l.filter fun it => decide (it.kind = 2)
def crsOf (l : List It) : List Cr := (tysOf l).flatMap fun it => ctsFrom it 0 it.ctors
def wellFrom (l : List It) : Nat → List It → Bool
 | _, [] => true
 | i, it :: rest => rwell l i it && wellFrom l (i + 1) rest
theorem rfrom_eq (l : List It) : ∀ (i : Nat) (rest : List It) (x : Ix), rfrom l i rest x = if wellFrom l i rest = true then some ⟨x.types ++ tysOf rest, x.ctors ++ crsOf rest, x.preds ++ (psOf rest).map (prOf l)⟩ else none
 | _, [], x => by simp [rfrom, wellFrom, tysOf, psOf, crsOf]
 | i, it :: rest, x => by
  have hwf : wellFrom l i (it :: rest) = (rwell l i it && wellFrom l (i + 1) rest) := rfl
  rw [rfrom]
  by_cases hw : rwell l i it = true
  ·have e : wellFrom l i (it :: rest) = wellFrom l (i + 1) rest := by rw [hwf, hw, Bool.true_and]
   rw [if_pos hw, rfrom_eq l (i + 1) rest, e]
   congr 2
   simp only [rstep]
   by_cases h1 : it.kind = 1
   ·have h2 : ¬ it.kind = 2 := by omega
    simp [h1, tysOf, psOf, crsOf]
   ·by_cases h2 : it.kind = 2
    ·simp [h2, tysOf, psOf, crsOf]
    ·simp [h1, h2, tysOf, psOf, crsOf]
  ·rw [if_neg hw]
   exact (if_neg (by rw [hwf, Bool.and_eq_true]; exact fun h => hw h.1)).symm
theorem rresolve_eq (l : List It) : rresolve l = if wellFrom l 0 l = true then some ⟨tysOf l, crsOf l, builtinsL ++ (psOf l).map (prOf l)⟩ else none := by
 rw [rresolve, rfrom_eq]; simp
theorem nodup_of {α β : Type} [DecidableEq β] (f : α → β) : ∀ {l : List α}, (∀ a ∈ l, l.countP (fun b => decide (f b = f a)) ≤ 1) → (l.map f).Nodup
 | [], _ => by simp
 | a :: l, h => by
  simp only [List.map_cons, List.nodup_cons]
  refine ⟨fun hm => ?_, nodup_of f fun b hb => Nat.le_trans ?_ (h b (.tail _ hb))⟩
  ·obtain ⟨b, hb, e⟩ := List.mem_map.1 hm
   have h1 := h a (.head _)
   have h2 : 0 < l.countP (fun b => decide (f b = f a)) := List.countP_pos_iff.2 ⟨b, hb, by simp [e]⟩
   simp only [List.countP_cons, decide_true, if_true] at h1
   omega
  ·simp only [List.countP_cons]; omega
theorem wellPred_of {l : List It} {i : Nat} {it : It} (h : rwell l i it = true) (h2 : it.kind = 2) : isBuiltin (keyOf it) = false ∧ rcount l 2 (keyOf it) = 1 ∧ rcount l 3 (keyOf it) ≠ 0 ∧ tyOks l false [] it.types = true := by
 have h1 : ¬ it.kind = 1 := by omega
 rw [rwell, if_neg h1, if_pos h2, wellPred] at h
 simp only [Bool.and_eq_true, Bool.not_eq_true', decide_eq_true_eq, decide_eq_false_iff_not] at h
 exact ⟨h.1.1.1, by omega, by omega, h.2⟩
theorem rcount_psOf (l : List It) (q : Ky) : rcount l 2 q = (psOf l).countP fun it => decide (keyOf it = q) := by
 rw [rcount, psOf, List.countP_filter]
 refine List.countP_congr fun it _ => ?_
 simp [isOf, Ky.eqb_iff, and_comm]
theorem isBuiltin_mem {q : Ky} : isBuiltin q = true ↔ q ∈ builtinsL.map Pr.key := by
 rw [isBuiltin, List.any_eq_true, List.mem_map]
 constructor
 ·rintro ⟨p, hp, e⟩; exact ⟨p, hp, (Ky.eqb_iff _ _).1 e⟩
 ·rintro ⟨p, hp, e⟩; exact ⟨p, hp, (Ky.eqb_iff _ _).2 e⟩
end Go.Aug

/- Without its last clause: what Flatten says of a predicate. -/
namespace Go.Aug
open Go.Proofs
set_option maxRecDepth 100000
set_option linter.unusedSimpArgs false
end Go.Aug

/- Flat goals: which numbers stand in a predicate's body, and how long its rows are. -/
namespace Go.Aug
open Go.Proofs
set_option maxRecDepth 100000
set_option linter.unusedSimpArgs false
end Go.Aug

/- Flat goals: the reference's comparison. -/
namespace Go.Aug
open Go.Proofs
set_option maxRecDepth 100000
set_option linter.unusedSimpArgs false
attribute [local irreducible] hid andK letA onSome onVar onArr arrOnly onInt onBool onFunc onTup idxA ldV ldD addO appTo fillL slA srcK nilQ retW gif sgd sguard svc sops sdops sagain aopO aLoad aStore aBin aUn aConv aLen aIndexAddr aIndex aIndexAddrS aIndexS aSlice aAppend aBuild aBuildSlice aMakeSlice aField aFieldOf aCallOp deepK deepL frzM putE newK newV growV ACall roundQ thenQ inBlockQ sret cnd szs nilC onMap onRow aLookup aMapUpdate aMakeMap
attribute [local go_sem] Int.natCast_zero
end Go.Aug

/- The Flat laws: their example. -/
namespace Go.Aug
open Go.Proofs
set_option maxRecDepth 100000
set_option linter.unusedSimpArgs false
attribute [local irreducible] hid andK letA onSome onVar onArr arrOnly onInt onBool onFunc onTup idxA ldV ldD addO appTo fillL slA srcK nilQ retW gif sgd sguard svc sops sdops sagain aopO aLoad aStore aBin aUn aConv aLen aIndexAddr aIndex aIndexAddrS aIndexS aSlice aAppend aBuild aBuildSlice aMakeSlice aField aFieldOf aCallOp deepK deepL frzM putE newK newV growV ACall roundQ thenQ inBlockQ sret cnd szs nilC onMap onRow aLookup aMapUpdate aMakeMap
attribute [local go_sem] Int.natCast_zero
end Go.Aug

/- Flatten of a text's index, and of one with fewer clauses; the numbers of its bodies. -/
namespace Go.Aug
open Go.Proofs
set_option maxRecDepth 100000
set_option linter.unusedSimpArgs false
end Go.Aug
