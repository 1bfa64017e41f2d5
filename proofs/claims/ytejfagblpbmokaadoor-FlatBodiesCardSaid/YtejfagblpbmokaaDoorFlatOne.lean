/- The contracts of flat: numbers, unifications, places; conditions stand in each contract. -/
import Derived.Test.YtejfagblpbmokaaDoorNamesTwo
import Derived.Test.YtejfagblpbmokaaDoorAugSix
set_option linter.all false
set_option linter.unusedVariables false
set_option linter.unusedSimpArgs false
set_option linter.unusedSectionVars false

/- Flat goals: the numbering of a clause's variables. -/
namespace Go.Aug
open Nat renaming reduceBEq → zA, reduceLT → zB, reduceAdd → zC, reduceSub → zD, reduceMul → zE, reduceLeDiff → zF
open Int renaming reduceLE → zG
open Go.Proofs
set_option maxRecDepth 100000
set_option linter.unusedSimpArgs false
attribute [local irreducible] hid andK letA onSome onVar onArr arrOnly onInt onBool onFunc onTup idxA ldV ldD addO appTo fillL slA srcK nilQ retW gif sgd sguard svc sops sdops sagain aopO aLoad aStore aBin aUn aConv aLen aIndexAddr aIndex aIndexAddrS aIndexS aSlice aAppend aBuild aBuildSlice aMakeSlice aField aFieldOf aCallOp deepK deepL frzM putE newK newV growV ACall roundQ thenQ inBlockQ sret cnd szs nilC onMap onRow aLookup aMapUpdate aMakeMap
attribute [local go_sem] Int.natCast_zero
inductive Fl where
 | mk (kind x y int : Int) (ctor pred : Ky) (args : List Int) (goals : List Fl)
mutual
def Fl.cs : Fl → List D
 | .mk k x y i c p xs gs => [.int .i64 k, .int .i64 x, .int .i64 y, .int .i64 i, .str c.name, .int .i64 c.ar, .str p.name, .int .i64 p.ar, .slice (xs.map (.int .i64)), .slice (Fl.ds gs)]
def Fl.ds : List Fl → List D
 | [] => []
 | t :: ts => .agg t.cs :: Fl.ds ts
end
def Fl.d (t : Fl) : D := .agg t.cs
theorem Fl.ds_map : ∀ xs : List Fl, Fl.ds xs = xs.map Fl.d
 | [] => rfl
 | t :: ts => by simp only [Fl.ds, List.map_cons, Fl.ds_map ts]; rfl
theorem Fl.cs_length (t : Fl) : t.cs.length = 10 := by cases t; simp [Fl.cs]
def ky0 : Ky := ⟨⟨#[]⟩, 0⟩
/-- The numbering: what is next, the names' numbers. -/
structure NS where
 next : Nat
 names : List (ByteArray × Nat)
def enc (m : List (ByteArray × Nat)) : List (D × D) := m.map fun p => (.str p.1, .int .i64 p.2)
def nfind : List (ByteArray × Nat) → ByteArray → Option Nat
 | [], _ => none
 | (a, v) :: m, n => if n = a then some v else nfind m n
def nput : List (ByteArray × Nat) → ByteArray → Nat → List (ByteArray × Nat)
 | [], n, v => [(n, v)]
 | (a, w) :: m, n, v => if n = a then (a, v) :: m else (a, w) :: nput m n v
theorem mget_enc (n : ByteArray) : ∀ m : List (ByteArray × Nat), mget (enc m) (.str n) = (nfind m n).map fun (v : Nat) => D.int .i64 (v : Int)
 | [] => rfl
 | (a, v) :: m => by
  simp only [enc, List.map_cons, mget, keq, leq, nfind, decide_eq_true_eq]
  split
  ·rfl
  ·exact mget_enc n m
theorem mput_enc (n : ByteArray) (v : Nat) : ∀ m : List (ByteArray × Nat), mput (enc m) (.str n) (.int .i64 v) = enc (nput m n v)
 | [] => rfl
 | (a, w) :: m => by
  simp only [enc, List.map_cons, mput, keq, leq, nput, decide_eq_true_eq]
  split
  ·rfl
  ·rw [List.map_cons]; congr 1; exact mput_enc n v m
abbrev nvar (s : NS) (bm : Nat) : AObj := .var [.d (.int .i64 s.next), .mp bm]
abbrev nmap (s : NS) : AObj := .map (.one .str) (enc s.names)
def nset (H : Heap) (r bm : Nat) (s : NS) : Heap := upd (upd H r (nvar s bm)) bm (nmap s)
@[go_sem] theorem nset_hp {R : Heap} {lst : List (Nat × AObj)} {r bm : Nat} {s : NS} : nset (hp R lst) r bm s = hp R (setL bm (nmap s) (setL r (nvar s bm) lst)) := by rw [nset, upd_hp, upd_hp]
structure NAt (H : Heap) (r bm : Nat) (s : NS) : Prop where
 v : H r = some (nvar s bm)
 m : H bm = some (nmap s)
 ne : eqn r bm = false ∧ eqn bm r = false
 few : s.next < 1099511627775
theorem NAt.hp {H : Heap} {r bm : Nat} {s : NS} (h : NAt H r bm s) : hp H [(r, nvar s bm), (bm, nmap s)] = H := by
 funext j; simp only [Aug.hp, upd]; split
 ·rename_i e; rw [e, h.v]
 ·split
  ·rename_i e; rw [e, h.m]
  ·rfl
theorem ACall.nin {P : Program} {V : Env} {f : FuncId} {args : List A} {K : A → Heap → Prop} {H : Heap} {r bm : Nat} {s : NS} (h : NAt H r bm s) (k : ACall P V f args (Aug.hp H [(r, nvar s bm), (bm, nmap s)]) K) : ACall P V f args H K := by rw [h.hp] at k; exact k
theorem nset_is {H : Heap} {r bm : Nat} {s : NS} (h : eqn bm r = false) : nset H r bm s = Aug.hp H [(r, nvar s bm), (bm, nmap s)] := by
 have h' := eqn_false h
 funext j; simp only [nset, Aug.hp, upd]; split <;> split <;> simp_all
def nfresh (s : NS) : Nat × NS := (s.next, ⟨s.next + 1, s.names⟩)
def kUnder : ByteArray := ⟨#[95]⟩
def nnumber (n : ByteArray) (s : NS) : Nat × NS :=
 if n = kUnder then nfresh s else match nfind s.names n with
  | some v => (v, s)
  | none => (s.next, ⟨s.next + 1, nput s.names n s.next⟩)
theorem fresh_ok {eb : EbG} (H : Heap) (r : Nat) (n : Nat) (a : A) (h : H r = some (.var [.d (.int .i64 n), a])) (hn : n < 1099511627775) (K : A → Heap → Prop) (hK : K (.d (.int .i64 n)) (upd H r (.var [.d (.int .i64 ((n + 1 : Nat) : Int)), a]))) :
  ACall Tryd.prog (seatV eb) 90 [.ref r 0] H K := by
 have hw := wrapN (k := n) (by omega)
 have hw2 : IntKind.i64.wrap (((n + 1 : Nat) : Int) - 1) = (n : Int) := by rw [wrap64 (by omega) (by omega)]; omega
 refine ACall.hp_in h ?_
 refine ACall.by mixed fn90 (by simp) ?_
 conv in s90 => cbv
 refine svc_start ?_
 simp -dsimp (maxDischargeDepth := 9) only [go_sem, zA, zB, zC, zD, zE, zF, zG, gS, hw, hw2]
 exact retW_is hK
theorem number_ok {eb : EbG} (H : Heap) (r bm : Nat) (s : NS) (h : NAt H r bm s) (nm : ByteArray) (K : A → Heap → Prop) (hK : K (.d (.int .i64 (nnumber nm s).1)) (nset H r bm (nnumber nm s).2)) :
  ACall Tryd.prog (seatV eb) 89 [.ref r 0, .d (.str nm)] H K := by
 have hne := h.ne
 rw [nset_is hne.2] at hK
 refine ACall.nin h ?_
 refine ACall.by mixed fn89 (by simp) ?_
 conv in s89 => cbv
 refine svc_start ?_
 simp -dsimp (maxDischargeDepth := 9) only [go_sem, zA, zB, zC, zD, zE, zF, zG, gS]
 refine gif_split (fun g1 => ?_) (fun g1 => ?_)
 ·have e : nm = kUnder := of_decide_eq_true g1
  rw [nnumber, if_pos e] at hK
  simp -dsimp (maxDischargeDepth := 9) only [go_sem, zA, zB, zC, zD, zE, zF, zG, gS, g1]
  refine fresh_ok _ r s.next (.mp bm) (by simp only [hpS, eq_self, implies_true, hne]) h.few _ ?_
  simp -dsimp (maxDischargeDepth := 9) only [go_sem, zA, zB, zC, zD, zE, zF, zG, gS, hne]
  exact retW_is hK
 ·have e : nm ≠ kUnder := of_decide_eq_false g1
  rw [nnumber, if_neg e] at hK
  simp -dsimp (maxDischargeDepth := 9) only [go_sem, zA, zB, zC, zD, zE, zF, zG, gS, g1, hne, mget_enc]
  cases hf : nfind s.names nm with
  | some v =>
   rw [hf] at hK
   simp -dsimp (maxDischargeDepth := 9) only [go_sem, zA, zB, zC, zD, zE, zF, zG, gS, hne, Option.map_some, Option.getD_some, Option.isSome_some]
   exact retW_is hK
  | none =>
   rw [hf] at hK
   simp -dsimp (maxDischargeDepth := 9) only [go_sem, zA, zB, zC, zD, zE, zF, zG, gS, hne, Option.map_none, Option.getD_none, Option.isSome_none]
   refine fresh_ok _ r s.next (.mp bm) (by simp only [hpS, eq_self, implies_true, hne]) h.few _ ?_
   simp -dsimp (maxDischargeDepth := 9) only [go_sem, zA, zB, zC, zD, zE, zF, zG, gS, hne, mput_enc]
   exact retW_is hK
end Go.Aug

/- Flat goals: the row of a number and a term. -/
namespace Go.Aug
open Go.Proofs
set_option maxRecDepth 100000
set_option linter.unusedSimpArgs false
attribute [local irreducible] hid andK letA onSome onVar onArr arrOnly onInt onBool onFunc onTup idxA ldV ldD addO appTo fillL slA srcK nilQ retW gif sgd sguard svc sops sdops sagain aopO aLoad aStore aBin aUn aConv aLen aIndexAddr aIndex aIndexAddrS aIndexS aSlice aAppend aBuild aBuildSlice aMakeSlice aField aFieldOf aCallOp deepK deepL frzM putE newK newV growV ACall roundQ thenQ inBlockQ sret cnd szs nilC onMap onRow aLookup aMapUpdate aMakeMap
attribute [local go_sem] Int.natCast_zero
mutual
def Tm.nodes : Tm → Nat
 | .mk _ _ _ xs => 1 + Tm.nodess xs
def Tm.nodess : List Tm → Nat
 | [] => 0
 | t :: ts => t.nodes + Tm.nodess ts
end
theorem Tm.nodes_pos (t : Tm) : 1 ≤ t.nodes := by cases t; simp only [Tm.nodes]; omega
theorem Tm.nodess_length : ∀ ts : List Tm, ts.length ≤ Tm.nodess ts
 | [] => Nat.le_refl _
 | t :: ts => by have := t.nodes_pos; have := Tm.nodess_length ts; simp only [Tm.nodess, List.length_cons]; omega
/-- The numbers of a constructor's arguments. -/
def nargs : List Tm → NS → List Nat × NS
 | [], s => ([], s)
 | .mk k n _ _ :: ts, s =>
  let p := if k = 1 then nnumber n s else nfresh s
  (p.1 :: (nargs ts p.2).1, (nargs ts p.2).2)
def fSame (x y : Int) : Fl := .mk 3 x y 0 ky0 ky0 [] []
def fInt (x i : Int) : Fl := .mk 4 x 0 i ky0 ky0 [] []
def fCtor (x : Int) (q : Ky) (vs : List Nat) : Fl := .mk 5 x 0 0 q ky0 (vs.map Int.ofNat) []
mutual
def nunify (x : Nat) : Tm → NS → List Fl × NS
 | .mk k n i ts, s =>
  if k = 1 then (if n = kUnder then ([], s) else match nfind s.names n with
   | some v => ([fSame x v], s)
   | none => ([], ⟨s.next, nput s.names n x⟩))
  else if k = 2 then ([fInt x i], s)
  else (fCtor x ⟨n, ts.length⟩ (nargs ts s).1 :: (nunifys (nargs ts s).1 ts (nargs ts s).2).1, (nunifys (nargs ts s).1 ts (nargs ts s).2).2)
def nunifys : List Nat → List Tm → NS → List Fl × NS
 | a :: vs, .mk k n i ts :: rest, s =>
  if k = 1 then nunifys vs rest s
  else ((nunify a (.mk k n i ts) s).1 ++ (nunifys vs rest (nunify a (.mk k n i ts) s).2).1, (nunifys vs rest (nunify a (.mk k n i ts) s).2).2)
 | _, _, s => ([], s)
end
theorem nnumber_next (n : ByteArray) (s : NS) : s.next ≤ (nnumber n s).2.next ∧ (nnumber n s).2.next ≤ s.next + 1 := by
 unfold nnumber nfresh
 split
 ·simp
 ·split <;> simp
theorem nargs_len : ∀ (ts : List Tm) (s : NS), (nargs ts s).1.length = ts.length
 | [], _ => rfl
 | .mk k n _ _ :: ts, s => by simp only [nargs, List.length_cons]; rw [nargs_len ts]
theorem nargs_next : ∀ (ts : List Tm) (s : NS), s.next ≤ (nargs ts s).2.next ∧ (nargs ts s).2.next ≤ s.next + ts.length
 | [], s => by simp [nargs]
 | .mk k n _ _ :: ts, s => by
  simp only [nargs, List.length_cons]
  split
  ·have := nnumber_next n s; have := nargs_next ts (nnumber n s).2; omega
  ·have := nargs_next ts (nfresh s).2; simp only [nfresh] at this ⊢; omega
mutual
theorem nunify_size (x : Nat) : ∀ (t : Tm) (s : NS), (nunify x t s).1.length ≤ t.nodes ∧ s.next ≤ (nunify x t s).2.next ∧ (nunify x t s).2.next + 1 ≤ s.next + t.nodes
 | .mk k n i ts, s => by
  simp only [nunify, Tm.nodes]
  repeat' split
  all_goals (try (simp only [List.length_nil, List.length_cons]; omega))
  have h1 := nargs_next ts s
  have h2 := nunifys_size (nargs ts s).1 ts (nargs ts s).2
  have h3 := nargs_len ts s
  simp only [List.length_cons]; omega
theorem nunifys_size : ∀ (vs : List Nat) (ts : List Tm) (s : NS), (nunifys vs ts s).1.length ≤ Tm.nodess ts ∧ s.next ≤ (nunifys vs ts s).2.next ∧ (nunifys vs ts s).2.next + ts.length ≤ s.next + Tm.nodess ts
 | a :: vs, .mk k n i ts :: rest, s => by
  simp only [nunifys, Tm.nodess, List.length_cons]
  split
  ·have h := nunifys_size vs rest s
   have := (Tm.mk k n i ts).nodes_pos
   omega
  ·have h1 := nunify_size a (.mk k n i ts) s
   have h2 := nunifys_size vs rest (nunify a (.mk k n i ts) s).2
   simp only [List.length_append]; omega
 | [], ts, s => by have := Tm.nodess_length ts; simp only [nunifys, List.length_nil]; omega
 | a :: vs, [], s => by simp [nunifys, Tm.nodess]
end
end Go.Aug

/- Flat goals: the row of a number and a term: the walk. -/
namespace Go.Aug
open Nat renaming reduceBEq → zA, reduceLT → zB, reduceAdd → zC, reduceSub → zD, reduceMul → zE, reduceLeDiff → zF
open Int renaming reduceLE → zG
open Go.Proofs
set_option maxRecDepth 100000
set_option linter.unusedSimpArgs false
attribute [local irreducible] hid andK letA onSome onVar onArr arrOnly onInt onBool onFunc onTup idxA ldV ldD addO appTo fillL slA srcK nilQ retW gif sgd sguard svc sops sdops sagain aopO aLoad aStore aBin aUn aConv aLen aIndexAddr aIndex aIndexAddrS aIndexS aSlice aAppend aBuild aBuildSlice aMakeSlice aField aFieldOf aCallOp deepK deepL frzM putE newK newV growV ACall roundQ thenQ inBlockQ sret cnd szs nilC onMap onRow aLookup aMapUpdate aMakeMap
attribute [local go_sem] Int.natCast_zero
theorem keyOfF_ok {eb : EbG} (H : Heap) (t : Tm) (K : A → Heap → Prop) (hK : K (.d (Ky.d ⟨t.name, t.args.length⟩)) H) :
  ACall Tryd.prog (seatV eb) 91 [.d t.d] H K := by
 obtain ⟨k, n, i, xs⟩ := t
 refine ACall.hp_start ?_
 refine ACall.by mixed fn91 (by simp) ?_
 conv in s91 => cbv
 refine svc_start ?_
 simp -dsimp (maxDischargeDepth := 9) only [go_sem, zA, zB, zC, zD, zE, zF, zG, gS, Tm.d, Tm.cs, Tm.ds_map]
 refine newK_hp (fun b1 f1 => ?_)
 simp only [off_cons, off_nil] at f1
 simp -dsimp (maxDischargeDepth := 9) only [go_sem, zA, zB, zC, zD, zE, zF, zG, gS, f1]
 refine newK_hp (fun b2 f2 => ?_)
 simp only [off_cons, off_nil] at f2
 simp -dsimp (maxDischargeDepth := 9) only [go_sem, zA, zB, zC, zD, zE, zF, zG, gS, f1, f2]
 exact retW_drop (G := H) (leH_hp0 (by simp only [hpS, eq_self, implies_true, f1, f2])) (retW_is hK)
theorem fSame_d (x y : Int) : (fSame x y).d = .agg [.int .i64 3, .int .i64 x, .int .i64 y, .int .i64 0, .str ⟨#[]⟩, .int .i64 0, .str ⟨#[]⟩, .int .i64 0, .slice [], .slice []] := by simp [fSame, Fl.d, Fl.cs, Fl.ds, ky0]
theorem fInt_d (x i : Int) : (fInt x i).d = .agg [.int .i64 4, .int .i64 x, .int .i64 0, .int .i64 i, .str ⟨#[]⟩, .int .i64 0, .str ⟨#[]⟩, .int .i64 0, .slice [], .slice []] := by simp [fInt, Fl.d, Fl.cs, Fl.ds, ky0]
theorem fCtor_d (x : Int) (q : Ky) (vs : List Nat) : (fCtor x q vs).d = .agg [.int .i64 5, .int .i64 x, .int .i64 0, .int .i64 0, .str q.name, .int .i64 q.ar, .str ⟨#[]⟩, .int .i64 0, .slice (vs.map fun (v : Nat) => .int .i64 (v : Int)), .slice []] := by simp [fCtor, Fl.d, Fl.cs, Fl.ds, ky0]
abbrev pcF (l : List Fl) (a : A) : Pc := ⟨39, 10, l.map Fl.d, a⟩
theorem set_nums (l : List Nat) (n m : Nat) : (l.map (fun (v : Nat) => D.int .i64 (v : Int)) ++ List.replicate (n + 1) (D.int .i64 0)).set l.length (D.int .i64 (m : Int)) = (l ++ [m]).map (fun (v : Nat) => D.int .i64 (v : Int)) ++ List.replicate n (D.int .i64 0) := by
 rw [List.set_append_right _ _ (by simp)]
 simp [List.replicate_succ]
set_option maxHeartbeats 8000000 in
theorem unify_ok {eb : EbG} : ∀ (m : Nat) (t : Tm), _root_.SizeOf.sizeOf t ≤ m → t.small → ∀ (H : Heap) (r bm : Nat) (s : NS) (_ : NAt H r bm s) (x : Nat) (_ : s.next + t.nodes ≤ 1099511627774) (K : A → Heap → Prop)
  (_ : ∀ a, RowA H [r, bm] ((nunify x t s).1.map Fl.d) a → K a (withA (nset H r bm (nunify x t s).2) a 39 10 ((nunify x t s).1.map Fl.d))),
  ACall Tryd.prog (seatV eb) 46 [.ref r 0, .d (.int .i64 x), .d t.d] H K
 | 0, .mk k nm i ts, hm, _, _, _, _, _, _, _, _, _, _ => by simp at hm
 | m + 1, .mk k nm i ts, hm, hs, H, r, bm, s, h, x, hlim, K, hK => by
  have hne := h.ne
  simp only [nset_is hne.2] at hK
  simp only [Tm.small] at hs
  simp only [Tm.nodes] at hlim
  have ih : ∀ t ∈ ts, ∀ (H : Heap) (r bm : Nat) (s : NS) (_ : NAt H r bm s) (x : Nat) (_ : s.next + t.nodes ≤ 1099511627774) (K : A → Heap → Prop)
   (_ : ∀ a, RowA H [r, bm] ((nunify x t s).1.map Fl.d) a → K a (withA (nset H r bm (nunify x t s).2) a 39 10 ((nunify x t s).1.map Fl.d))),
   ACall Tryd.prog (seatV eb) 46 [.ref r 0, .d (.int .i64 x), .d t.d] H K := fun t ht =>
    unify_ok m t (by have := List.sizeOf_lt_of_mem ht; simp only [Tm.mk.sizeOf_spec] at hm; omega) (Tm.smalls_mem hs.2 t ht)
  refine ACall.nin h ?_
  refine ACall.by mixed fn46 (by simp) ?_
  conv in s46 => cbv
  refine svc_start ?_
  simp -dsimp (maxDischargeDepth := 9) only [go_sem, zA, zB, zC, zD, zE, zF, zG, gS, Tm.d, Tm.cs, Tm.ds_map]
  refine newK_hp (fun b5 f5 => ?_)
  simp only [off_cons, off_nil] at f5
  simp -dsimp (maxDischargeDepth := 9) only [go_sem, zA, zB, zC, zD, zE, zF, zG, gS, hne, f5]
  refine gif_split (fun g1 => ?_) (fun g1 => ?_)
  ·have e1 : k = 1 := of_decide_eq_true g1
   simp only [nunify, if_pos e1] at hK
   simp -dsimp (maxDischargeDepth := 9) only [go_sem, zA, zB, zC, zD, zE, zF, zG, gS, g1, hne, f5]
   refine gif_split (fun g2 => ?_) (fun g2 => ?_)
   ·have e2 : nm = kUnder := of_decide_eq_true g2
    simp only [if_pos e2, List.map_nil] at hK
    simp -dsimp (maxDischargeDepth := 9) only [go_sem, zA, zB, zC, zD, zE, zF, zG, gS, g2, hne, f5]
    exact retW_drop (G := hp H [(r, nvar s bm), (bm, nmap s)]) (leH_hp (by simp only [hpS, eq_self, implies_true, hne, f5]) (by simp only [hpS, eq_self, implies_true, hne, f5])) (retW_is (hK .nils (.inl ⟨rfl, rfl⟩)))
   ·have e2 : nm ≠ kUnder := of_decide_eq_false g2
    simp only [if_neg e2] at hK
    simp -dsimp (maxDischargeDepth := 9) only [go_sem, zA, zB, zC, zD, zE, zF, zG, gS, g2, hne, f5, mget_enc]
    cases hf : nfind s.names nm with
    | some v =>
     simp only [hf, List.map_cons, List.map_nil] at hK
     simp -dsimp (maxDischargeDepth := 9) only [go_sem, zA, zB, zC, zD, zE, zF, zG, gS, hne, f5, Option.map_some, Option.getD_some, Option.isSome_some]
     refine newV_hp (fun b44 v44 f44 w44 => ?_)
     simp only [off_cons, off_nil] at f44
     simp -dsimp (maxDischargeDepth := 9) only [go_sem, zA, zB, zC, zD, zE, zF, zG, gS, hne, f5, f44]
     refine retW_drop (G := hp H [(r, nvar s bm), (bm, nmap s), (b44, .arr 39 10 v44 [(fSame x v).d])]) (leH_hp (by simp only [hpS, eq_self, implies_true, hne, f5, f44, fSame_d]) (by simp only [hpS, eq_self, implies_true, hne, f5, f44, fSame_d])) (retW_is ?_)
     exact row_new hK (by simp only [hpS, eq_self, implies_true, hne]) (show off H [(r, nvar s bm), (bm, nmap s)] b44 by simp only [hpS, eq_self, implies_true, f44]) w44
    | none =>
     simp only [hf, List.map_nil] at hK
     simp -dsimp (maxDischargeDepth := 9) only [go_sem, zA, zB, zC, zD, zE, zF, zG, gS, hne, f5, Option.map_none, Option.getD_none, Option.isSome_none, mput_enc]
     exact retW_drop (G := hp H [(r, nvar ⟨s.next, nput s.names nm x⟩ bm), (bm, nmap ⟨s.next, nput s.names nm x⟩)]) (leH_hp (by simp only [hpS, eq_self, implies_true, hne, f5]) (by simp only [hpS, eq_self, implies_true, hne, f5])) (retW_is (hK .nils (.inl ⟨rfl, rfl⟩)))
  ·have e1 : k ≠ 1 := of_decide_eq_false g1
   simp -dsimp (maxDischargeDepth := 9) only [go_sem, zA, zB, zC, zD, zE, zF, zG, gS, g1, hne, f5]
   refine gif_split (fun g2 => ?_) (fun g2 => ?_)
   ·have e2 : k = 2 := of_decide_eq_true g2
    simp only [nunify, if_neg e1, if_pos e2, List.map_cons, List.map_nil] at hK
    simp -dsimp (maxDischargeDepth := 9) only [go_sem, zA, zB, zC, zD, zE, zF, zG, gS, g2, hne, f5]
    refine newV_hp (fun b51 v51 f51 w51 => ?_)
    simp only [off_cons, off_nil] at f51
    simp -dsimp (maxDischargeDepth := 9) only [go_sem, zA, zB, zC, zD, zE, zF, zG, gS, hne, f5, f51]
    refine retW_drop (G := hp H [(r, nvar s bm), (bm, nmap s), (b51, .arr 39 10 v51 [(fInt x i).d])]) (leH_hp (by simp only [hpS, eq_self, implies_true, hne, f5, f51, fInt_d]) (by simp only [hpS, eq_self, implies_true, hne, f5, f51, fInt_d])) (retW_is ?_)
    exact row_new hK (by simp only [hpS, eq_self, implies_true, hne]) (show off H [(r, nvar s bm), (bm, nmap s)] b51 by simp only [hpS, eq_self, implies_true, f51]) w51
   ·have e2 : k ≠ 2 := of_decide_eq_false g2
    simp only [nunify, if_neg e1, if_neg e2, List.map_cons] at hK
    simp -dsimp (maxDischargeDepth := 9) only [go_sem, zA, zB, zC, zD, zE, zF, zG, gS, g2, hne, f5]
    have hrep : List.replicate ts.length (D.int .i64 0) = ([] : List Nat).map (fun (v : Nat) => D.int .i64 (v : Int)) ++ List.replicate (ts.length - 0) (D.int .i64 0) := by simp
    refine andK_split (by omega) ?_
    simp -dsimp (maxDischargeDepth := 9) only [go_sem, zA, zB, zC, zD, zE, zF, zG, gS, g2, hne, f5]
    refine newV_hp (fun b9 v9 f9 w9 => ?_)
    simp only [off_cons, off_nil] at f9
    simp -dsimp (maxDischargeDepth := 9) only [go_sem, zA, zB, zC, zD, zE, zF, zG, gS, hne, f5, f9]
    refine svc_loop (X := Nat × List Nat × NS) (fun y => [(0, .ref r 0), (1, .d (.int .i64 x)), (5, .ref b5 0), (9, .own b9 v9), (57, .d (.slice (ts.map Tm.d))), (58, .d (.int .i64 ts.length)), (59, .d (.int .i64 y.1))])
     (fun y G => G = hp H [(r, nvar y.2.2 bm), (bm, nmap y.2.2), (b5, .var [.d (.int .i64 k), .d (.str nm), .d (.int .i64 i), .d (.slice (ts.map Tm.d))]), (b9, .arr 3 1 v9 (y.2.1.map (fun (v : Nat) => D.int .i64 (v : Int)) ++ List.replicate (ts.length - y.1) (D.int .i64 0)))] ∧ y.2.1.length = y.1 ∧ y.1 ≤ ts.length ∧ (y.2.1 ++ (nargs (ts.drop y.1) y.2.2).1, (nargs (ts.drop y.1) y.2.2).2) = nargs ts s ∧ y.2.2.next ≤ s.next + y.1)
     (fun y => ts.length - y.1) (0, [], s) _ ⟨rfl, rfl, by simp, by simp, by simp⟩ (by simp -dsimp (maxDischargeDepth := 9) only [go_sem, zA, zB, zC, zD, zE, zF, zG, gS]) (leH_hp (by simp only [hpS, eq_self, implies_true, hne, f5, f9, List.map_nil, List.nil_append, Nat.sub_zero]) (by simp only [hpS, eq_self, implies_true, hne, f5, f9, List.map_nil, List.nil_append, Nat.sub_zero])) ?_
    rintro ⟨j, vs, s1⟩ G ⟨hG, hvl, hj, hrun, hnx⟩
    simp only at hG hvl hj hrun hnx
    subst hG
    have hnl := Tm.nodess_length ts
    simp -dsimp (maxDischargeDepth := 9) only [go_sem, zA, zB, zC, zD, zE, zF, zG, gS]
    refine gif_split (fun q1 => ?_) (fun q1 => ?_)
    ·have q1' : j < ts.length := by have := of_decide_eq_true q1; omega
     obtain ⟨⟨tk, tn, ti, ta⟩, hx⟩ := list_at q1'
     have hwj := wrapN (k := j) (by omega)
     rw [drop_at hx] at hrun
     simp only [nargs] at hrun
     have hat : ∀ l, hp H l r = some (nvar s1 bm) → hp H l bm = some (nmap s1) → NAt (hp H l) r bm s1 := fun l a b => ⟨a, b, hne, by omega⟩
     obtain ⟨d, hd⟩ : ∃ d, ts.length - j = d + 1 := ⟨ts.length - j - 1, by omega⟩
     rw [hd]
     have hd1 : ts.length - (j + 1) = d := by omega
     have hset : ∀ m : Nat, (vs.map (fun (v : Nat) => D.int .i64 (v : Int)) ++ List.replicate (d + 1) (D.int .i64 0)).set j (.int .i64 (m : Int)) = (vs ++ [m]).map (fun (v : Nat) => D.int .i64 (v : Int)) ++ List.replicate d (D.int .i64 0) := fun m => by rw [← hvl]; exact set_nums vs d m
     have hget : (vs.map (fun (v : Nat) => D.int .i64 (v : Int)) ++ List.replicate (d + 1) (D.int .i64 0))[j]? = some (D.int .i64 0) := by
      rw [List.getElem?_append_right (by simp [hvl]), List.length_map, hvl, Nat.sub_self]; rfl
     simp -dsimp (maxDischargeDepth := 9) only [go_sem, zA, zB, zC, zD, zE, zF, zG, gS, q1, hx, Tm.d, Tm.cs]
     refine newK_hp (fun b11 f11 => ?_)
     simp only [off_cons, off_nil] at f11
     simp -dsimp (maxDischargeDepth := 9) only [go_sem, zA, zB, zC, zD, zE, zF, zG, gS, hne, f5, f9, f11]
     refine gif_split (fun q2 => ?_) (fun q2 => ?_)
     ·have e3 : tk = 1 := of_decide_eq_true q2
      simp only [if_pos e3] at hrun
      simp -dsimp (maxDischargeDepth := 9) only [go_sem, zA, zB, zC, zD, zE, zF, zG, gS, q2, hne, f5, f9, f11]
      refine number_ok _ r bm s1 (hat _ (by simp only [hpS, eq_self, implies_true, hne, f5, f9, f11]) (by simp only [hpS, eq_self, implies_true, hne, f5, f9, f11])) tn _ ?_
      simp -dsimp (maxDischargeDepth := 9) only [go_sem, zA, zB, zC, zD, zE, zF, zG, gS, hne, f5, f9, f11]
      refine andK_split (by simp only [List.length_append, List.length_map, List.length_replicate]; omega) ?_
      simp -dsimp (maxDischargeDepth := 9) only [go_sem, zA, zB, zC, zD, zE, zF, zG, gS, hne, f5, f9, f11, hwj, hget, hset]
      have hnn := nnumber_next tn s1
      refine roundQ_next (j + 1, vs ++ [(nnumber tn s1).1], (nnumber tn s1).2) _ ⟨rfl, by simp [hvl], q1', by rw [← hrun]; simp, by simp only; omega⟩ (by simp only; omega) (by simp -dsimp (maxDischargeDepth := 9) only [go_sem, zA, zB, zC, zD, zE, zF, zG, gS]) (leH_hp (by simp only [hpS, eq_self, implies_true, hne, f5, f9, f11, hd1]) (by simp only [hpS, eq_self, implies_true, hne, f5, f9, f11, hd1]))
     ·have e3 : tk ≠ 1 := of_decide_eq_false q2
      simp only [if_neg e3] at hrun
      simp -dsimp (maxDischargeDepth := 9) only [go_sem, zA, zB, zC, zD, zE, zF, zG, gS, q2, hne, f5, f9, f11]
      refine fresh_ok _ r s1.next (.mp bm) (by simp only [hpS, eq_self, implies_true, hne, f5, f9, f11]) (by omega) _ ?_
      simp -dsimp (maxDischargeDepth := 9) only [go_sem, zA, zB, zC, zD, zE, zF, zG, gS, hne, f5, f9, f11]
      refine andK_split (by simp only [List.length_append, List.length_map, List.length_replicate]; omega) ?_
      simp -dsimp (maxDischargeDepth := 9) only [go_sem, zA, zB, zC, zD, zE, zF, zG, gS, hne, f5, f9, f11, hwj, hget, hset]
      refine roundQ_next (j + 1, vs ++ [(nfresh s1).1], (nfresh s1).2) _ ⟨rfl, by simp [hvl], q1', by rw [← hrun]; simp, by simp only [nfresh]; omega⟩ (by simp only; omega) (by simp -dsimp (maxDischargeDepth := 9) only [go_sem, zA, zB, zC, zD, zE, zF, zG, gS]) (leH_hp (by simp only [hpS, eq_self, implies_true, hne, f5, f9, f11, hd1, nfresh]) (by simp only [hpS, eq_self, implies_true, hne, f5, f9, f11, hd1, nfresh]))
    ·have q1' : j = ts.length := by have := of_decide_eq_false q1; omega
     subst q1'
     rw [drop_end (Nat.le_refl _)] at hrun
     simp only [nargs, List.append_nil, Nat.sub_self] at hrun
     rw [← hrun] at hK
     simp only at hK
     simp -dsimp (maxDischargeDepth := 9) only [go_sem, zA, zB, zC, zD, zE, zF, zG, gS, q1, hne, f5, f9, Nat.sub_self, List.replicate_zero, List.append_nil]
     have hTd : (Tm.mk k nm i ts).d = .agg [.int .i64 k, .str nm, .int .i64 i, .slice (ts.map Tm.d)] := by simp [Tm.d, Tm.cs, Tm.ds_map]
     rw [← hTd]
     refine keyOfF_ok _ (.mk k nm i ts) _ ?_
     simp -dsimp (maxDischargeDepth := 9) only [go_sem, zA, zB, zC, zD, zE, zF, zG, gS, hne, f5, f9, Ky.d, Ky.cs, Tm.name, Tm.args]
     refine newV_hp (fun b85 v85 f85 w85 => ?_)
     simp only [off_cons, off_nil] at f85
     simp -dsimp (maxDischargeDepth := 9) only [go_sem, zA, zB, zC, zD, zE, zF, zG, gS, hne, f5, f9, f85]
     have hfc := fCtor_d (x : Int) ⟨nm, (ts.length : Int)⟩ vs
     have hacc0 : AccN H [r, bm] [pcF [fCtor x ⟨nm, ts.length⟩ vs] (.own b85 v85)] (upd H b85 (.arr 39 10 v85 [(fCtor x ⟨nm, ts.length⟩ vs).d])) := (AccN.none H [r, bm]).new (by simp only [hpS, eq_self, implies_true, f85]) f85.2.2.2.2.2.2.2.2 w85
     have f9' : upd H b85 (.arr 39 10 v85 [(fCtor x ⟨nm, ts.length⟩ vs).d]) b9 = none := upd_eq_none.2 ⟨eqn_false f85.2.2.2.2.2.2.2.1, f9.2.2.2.2.2.2⟩
     refine svc_loop (X := Nat × List Fl × NS × A × Heap) (fun y => [(0, .ref r 0), (9, .own b9 v9), (12, y.2.2.2.1), (87, .d (.slice (ts.map Tm.d))), (88, .d (.int .i64 ts.length)), (89, .d (.int .i64 y.1))])
      (fun y G => G = hp y.2.2.2.2 [(r, nvar y.2.2.1 bm), (bm, nmap y.2.2.1), (b9, .frz v9 (vs.map (fun (v : Nat) => D.int .i64 (v : Int))))] ∧ AccN H [r, bm] [pcF y.2.1 y.2.2.2.1] y.2.2.2.2 ∧ y.2.2.2.2 b9 = none ∧ y.1 ≤ ts.length ∧ (y.2.1 ++ (nunifys (vs.drop y.1) (ts.drop y.1) y.2.2.1).1, (nunifys (vs.drop y.1) (ts.drop y.1) y.2.2.1).2) = (fCtor x ⟨nm, ts.length⟩ vs :: (nunifys vs ts s1).1, (nunifys vs ts s1).2) ∧ y.2.2.1.next + Tm.nodess (ts.drop y.1) ≤ s.next + Tm.nodess ts + (ts.length - y.1) ∧ y.2.1.length + Tm.nodess (ts.drop y.1) ≤ 1 + Tm.nodess ts)
      (fun y => ts.length - y.1) (0, [fCtor x ⟨nm, ts.length⟩ vs], s1, .own b85 v85, upd H b85 (.arr 39 10 v85 [(fCtor x ⟨nm, ts.length⟩ vs).d])) _ ⟨rfl, hacc0, f9', by simp, by simp, by simp only [List.drop_zero]; omega, by simp only [List.drop_zero, List.length_cons, List.length_nil]; omega⟩ (by simp -dsimp (maxDischargeDepth := 9) only [go_sem, zA, zB, zC, zD, zE, zF, zG, gS]) (by rw [hp_base (by simp only [hpS, eq_self, implies_true, f85, hne])]; exact (leH_hp (by simp only [hpS, eq_self, implies_true, hne, f5, f9, f85, hfc, setL_cons, setL_nil]) (by simp only [hpS, eq_self, implies_true, hne, f5, f9, f85, hfc, setL_cons, setL_nil]))) ?_
     rintro ⟨j, out, s2, a, R⟩ G ⟨hG, hacc, f92, hj, hrun2, hnx2, hout⟩
     simp only at hG hacc f92 hj hrun2 hnx2 hout
     subst hG
     simp -dsimp (maxDischargeDepth := 9) only [go_sem, zA, zB, zC, zD, zE, zF, zG, gS]
     refine gif_split (fun q3 => ?_) (fun q3 => ?_)
     ·have q3' : j < ts.length := by have := of_decide_eq_true q3; omega
      obtain ⟨⟨tk, tn, ti, ta⟩, hx⟩ := list_at q3'
      obtain ⟨v, hv⟩ := list_at (show j < vs.length by omega)
      have hwj := wrapN (k := j) (by omega)
      rw [drop_at hx, drop_at hv] at hrun2
      rw [drop_at hx] at hnx2 hout
      simp only [nunifys, Tm.nodess] at hrun2 hnx2 hout
      have hle1 := Tm.nodess_length (ts.drop (j + 1))
      rw [List.length_drop] at hle1
      simp -dsimp (maxDischargeDepth := 9) only [go_sem, zA, zB, zC, zD, zE, zF, zG, gS, q3, hx, Tm.d, Tm.cs]
      refine newK_hp (fun b14 f14 => ?_)
      simp only [off_cons, off_nil] at f14
      simp -dsimp (maxDischargeDepth := 9) only [go_sem, zA, zB, zC, zD, zE, zF, zG, gS, hne, f9, f92, f14]
      refine gif_split (fun q4 => ?_) (fun q4 => ?_)
      ·have e4 : tk ≠ 1 := by simpa using q4
       simp only [if_neg e4] at hrun2
       simp -dsimp (maxDischargeDepth := 9) only [go_sem, zA, zB, zC, zD, zE, zF, zG, gS, q4, hne, f9, f92, f14, hv]
       have hsz := nunify_size v (.mk tk tn ti ta) s2
       refine ih (.mk tk tn ti ta) (List.mem_of_getElem? hx) _ r bm s2 ⟨by simp only [hpS, eq_self, implies_true, hne, f9, f92, f14], by simp only [hpS, eq_self, implies_true, hne, f9, f92, f14], hne, by omega⟩ v (by omega) _ (fun a' hrow => ?_)
       generalize hu : nunify v (.mk tk tn ti ta) s2 = u at hrun2 hsz hrow ⊢
       obtain ⟨rows, s3⟩ := u
       simp only at hrun2 hsz hrow
       simp -dsimp (maxDischargeDepth := 9) only [go_sem, zA, zB, zC, zD, zE, zF, zG, gS, hne, f9, f92, f14]
       obtain ⟨hacc', hw', hn'⟩ := hacc.take (E := 39) (sz := 10) (by simp only [hpS, eq_self, implies_true, hne]) hrow
       rw [hw' [(r, nvar s3 bm), (bm, nmap s3), (b9, .frz v9 (vs.map (fun (v : Nat) => D.int .i64 (v : Int)))), (b14, .var [.d (.int .i64 tk), .d (.str tn), .d (.int .i64 ti), .d (.slice (Tm.ds ta))])] (fun _ h => h)]
       have f93 := hn' b9 (by simp only [hpS, eq_self, implies_true, hne, f9, f92, f14]) f92
       have f143 := hn' b14 (by simp only [hpS, eq_self, implies_true, hne, f9, f92, f14]) f14.2.2.2.2.2.2
       generalize withA R a' 39 10 (rows.map Fl.d) = R3 at hacc' f93 f143 ⊢
       have hok3 : okK [r, bm] R3 [(r, nvar s3 bm), (bm, nmap s3), (b9, .frz v9 (vs.map (fun (v : Nat) => D.int .i64 (v : Int)))), (b14, .var [.d (.int .i64 tk), .d (.str tn), .d (.int .i64 ti), .d (.slice (Tm.ds ta))])] := by simp only [hpS, eq_self, implies_true, hne, f9, f93, f143, f14]
       rw [AccN.src (pre := []) hacc' hok3]
       have hszs := szs_map (sz := 10) (f := Fl.d) (fun x => x.cs_length) rows
       simp -dsimp (maxDischargeDepth := 9) only [go_sem, zA, zB, zC, zD, zE, zF, zG, gS, hszs]
       refine AccN.appTo (pre := [pcF rows a']) (p := pcF out a) (post := []) hacc' hok3 (by simp only [hpS, eq_self, implies_true, hne]) (by simp only [List.length_map]; omega) (fun a2 R4 hacc4 hn4 => ?_)
       have f94 := hn4 b9 (by simp only [hpS, eq_self, implies_true, hne, f9, f93, f143, f14]) f93
       have f144 := hn4 b14 (by simp only [hpS, eq_self, implies_true, hne, f9, f93, f143, f14]) f143
       have hacc5 : AccN H [r, bm] [pcF (out ++ rows) a2] R4 := by
        have := hacc4.without (pre := [])
        simp only [pcF, List.map_append]; exact this
       simp -dsimp (maxDischargeDepth := 9) only [go_sem, zA, zB, zC, zD, zE, zF, zG, gS, hne, f9, f94, f144, f14, hwj]
       refine roundQ_next (j + 1, out ++ rows, s3, a2, R4) _ ⟨rfl, hacc5, f94, q3', by rw [← hrun2]; simp, by simp only; omega, by simp only [List.length_append]; omega⟩ (by simp only; omega) (by simp -dsimp (maxDischargeDepth := 9) only [go_sem, zA, zB, zC, zD, zE, zF, zG, gS]) (leH_hp (by simp only [hpS, eq_self, implies_true, hne, f9, f94, f144, f14]) (by simp only [hpS, eq_self, implies_true, hne, f9, f94, f144, f14]))
      ·have e4 : tk = 1 := by simpa using q4
       have hp1 := (Tm.mk tk tn ti ta).nodes_pos
       simp only [if_pos e4] at hrun2
       simp -dsimp (maxDischargeDepth := 9) only [go_sem, zA, zB, zC, zD, zE, zF, zG, gS, q4, hne, f9, f92, f14, hwj]
       refine roundQ_next (j + 1, out, s2, a, R) _ ⟨rfl, hacc, f92, q3', hrun2, by simp only; omega, by simp only; omega⟩ (by simp only; omega) (by simp -dsimp (maxDischargeDepth := 9) only [go_sem, zA, zB, zC, zD, zE, zF, zG, gS]) (leH_hp (by simp only [hpS, eq_self, implies_true, hne, f9, f92, f14]) (by simp only [hpS, eq_self, implies_true, hne, f9, f92, f14]))
     ·rw [drop_end (by have := of_decide_eq_false q3; omega), drop_end (by have := of_decide_eq_false q3; omega)] at hrun2
      simp only [nunifys, List.append_nil, Prod.mk.injEq] at hrun2
      obtain ⟨r1, r2⟩ := hrun2
      simp only [← List.map_cons (f := Fl.d)] at hK
      rw [← r1, ← r2] at hK
      simp -dsimp (maxDischargeDepth := 9) only [go_sem, zA, zB, zC, zD, zE, zF, zG, gS, q3, hne]
      exact retW_row (ps := []) hacc (by simp only [hpS, eq_self, implies_true, hne, f9, f92]) (l1 := [(r, nvar s2 bm), (bm, nmap s2)]) (by simp only [hpS, eq_self, implies_true, hne, f9, f92]) (by simp only [hpS, eq_self, implies_true, hne, f9]) (fun hr => hK _ hr)
end Go.Aug

/- Flat goals: places, wholes, unifications. -/
namespace Go.Aug
open Nat renaming reduceBEq → zA, reduceLT → zB, reduceAdd → zC, reduceSub → zD, reduceMul → zE, reduceLeDiff → zF
open Int renaming reduceLE → zG
open Go.Proofs
set_option maxRecDepth 100000
set_option linter.unusedSimpArgs false
attribute [local irreducible] hid andK letA onSome onVar onArr arrOnly onInt onBool onFunc onTup idxA ldV ldD addO appTo fillL slA srcK nilQ retW gif sgd sguard svc sops sdops sagain aopO aLoad aStore aBin aUn aConv aLen aIndexAddr aIndex aIndexAddrS aIndexS aSlice aAppend aBuild aBuildSlice aMakeSlice aField aFieldOf aCallOp deepK deepL frzM putE newK newV growV ACall roundQ thenQ inBlockQ sret cnd szs nilC onMap onRow aLookup aMapUpdate aMakeMap
attribute [local go_sem] Int.natCast_zero
def nplace (t : Tm) (s : NS) : Nat × List Fl × NS := if t.kind = 1 then ((nnumber t.name s).1, [], (nnumber t.name s).2) else (s.next, nunify s.next t (nfresh s).2)
theorem nplace_size (t : Tm) (s : NS) : (nplace t s).2.1.length ≤ t.nodes ∧ s.next ≤ (nplace t s).2.2.next ∧ (nplace t s).2.2.next ≤ s.next + t.nodes := by
 unfold nplace
 have hpos := t.nodes_pos
 split
 ·have := nnumber_next t.name s; simp only [List.length_nil]; omega
 ·have := nunify_size s.next t (nfresh s).2; simp only [nfresh] at this ⊢; omega
set_option maxHeartbeats 2000000 in
theorem place_ok {eb : EbG} (t : Tm) (ht : t.small) (H : Heap) (r bm : Nat) (s : NS) (h : NAt H r bm s) (hlim : s.next + t.nodes ≤ 1099511627773) (K : A → Heap → Prop)
  (hK : ∀ a, RowA H [r, bm] ((nplace t s).2.1.map Fl.d) a → K (.tup [.d (.int .i64 (nplace t s).1), a]) (withA (nset H r bm (nplace t s).2.2) a 39 10 ((nplace t s).2.1.map Fl.d))) :
  ACall Tryd.prog (seatV eb) 93 [.ref r 0, .d t.d] H K := by
 have hne := h.ne
 have hfew := h.few
 simp only [nset_is hne.2] at hK
 have hpos := t.nodes_pos
 obtain ⟨k, n, i, xs⟩ := t
 refine ACall.nin h ?_
 refine ACall.by mixed fn93 (by simp) ?_
 conv in s93 => cbv
 refine svc_start ?_
 simp -dsimp (maxDischargeDepth := 9) only [go_sem, zA, zB, zC, zD, zE, zF, zG, gS, Tm.d, Tm.cs, Tm.ds_map]
 refine newK_hp (fun b5 f5 => ?_)
 simp only [off_cons, off_nil] at f5
 simp -dsimp (maxDischargeDepth := 9) only [go_sem, zA, zB, zC, zD, zE, zF, zG, gS, hne, f5]
 refine gif_split (fun g1 => ?_) (fun g1 => ?_)
 ·have e1 : k = 1 := of_decide_eq_true g1
  have hpl : nplace (.mk k n i xs) s = ((nnumber n s).1, [], (nnumber n s).2) := if_pos e1
  simp only [hpl, List.map_nil] at hK
  simp -dsimp (maxDischargeDepth := 9) only [go_sem, zA, zB, zC, zD, zE, zF, zG, gS, g1, hne, f5]
  refine number_ok _ r bm s ⟨by simp only [hpS, eq_self, implies_true, hne, f5], by simp only [hpS, eq_self, implies_true, hne, f5], hne, hfew⟩ n _ ?_
  simp -dsimp (maxDischargeDepth := 9) only [go_sem, zA, zB, zC, zD, zE, zF, zG, gS, hne, f5]
  exact retW_drop (G := hp H [(r, nvar (nnumber n s).2 bm), (bm, nmap (nnumber n s).2)]) (leH_hp (by simp only [hpS, eq_self, implies_true, hne, f5]) (by simp only [hpS, eq_self, implies_true, hne, f5])) (retW_is (hK .nils (.inl ⟨rfl, rfl⟩)))
 ·have e1 : k ≠ 1 := of_decide_eq_false g1
  have hTd : (Tm.mk k n i xs).d = .agg [.int .i64 k, .str n, .int .i64 i, .slice (xs.map Tm.d)] := by simp [Tm.d, Tm.cs, Tm.ds_map]
  have hpl : nplace (.mk k n i xs) s = (s.next, nunify s.next (.mk k n i xs) (nfresh s).2) := if_neg e1
  simp only [hpl] at hK
  simp -dsimp (maxDischargeDepth := 9) only [go_sem, zA, zB, zC, zD, zE, zF, zG, gS, g1, hne, f5]
  refine fresh_ok _ r s.next (.mp bm) (by simp only [hpS, eq_self, implies_true, hne, f5]) hfew _ ?_
  simp -dsimp (maxDischargeDepth := 9) only [go_sem, zA, zB, zC, zD, zE, zF, zG, gS, hne, f5]
  rw [← hTd]
  refine unify_ok _ (.mk k n i xs) (Nat.le_refl _) ht _ r bm (nfresh s).2 ⟨by simp only [hpS, eq_self, implies_true, hne, f5, nfresh], by simp only [hpS, eq_self, implies_true, hne, f5, nfresh], hne, by simp only [nfresh]; omega⟩ s.next (by simp only [nfresh]; omega) _ (fun a' hrow => ?_)
  generalize hu : nunify s.next (Tm.mk k n i xs) (nfresh s).2 = u at hK hrow ⊢
  obtain ⟨rows, s3⟩ := u
  simp only at hK hrow
  simp -dsimp (maxDischargeDepth := 9) only [go_sem, zA, zB, zC, zD, zE, zF, zG, gS, hne, f5]
  obtain ⟨hacc', hw', hn'⟩ := (AccN.none H [r, bm]).take (E := 39) (sz := 10) (l := [(r, nvar (nfresh s).2 bm), (bm, nmap (nfresh s).2), (b5, .var [.d (.int .i64 k), .d (.str n), .d (.int .i64 i), .d (.slice (xs.map Tm.d))])]) (by simp only [hpS, eq_self, implies_true, hne]) hrow
  rw [hw' [(r, nvar s3 bm), (bm, nmap s3), (b5, .var [.d (.int .i64 k), .d (.str n), .d (.int .i64 i), .d (.slice (xs.map Tm.d))])] (fun _ h => h)]
  have f5' := hn' b5 (by simp only [hpS, eq_self, implies_true, hne, f5]) f5.2.2.2.2
  exact retW_rowX hacc' (by simp only [hpS, eq_self, implies_true, hne, f5, f5']) (l1 := [(r, nvar s3 bm), (bm, nmap s3)]) (by simp only [hpS, eq_self, implies_true, hne, f5]) (by simp only [hpS, eq_self, implies_true, hne, f5]) (fun hr => hK _ hr)
def fTrue : Fl := .mk 1 0 0 0 ky0 ky0 [] []
def fRow (k : Int) (x : Int) (gs : List Fl) : Fl := .mk k x 0 0 ky0 ky0 [] gs
def nwhole : List Fl → Fl
 | [] => fTrue
 | [g] => g
 | gs => fRow 7 0 gs
theorem fRow_d (k x : Int) (gs : List Fl) : (fRow k x gs).d = .agg [.int .i64 k, .int .i64 x, .int .i64 0, .int .i64 0, .str ⟨#[]⟩, .int .i64 0, .str ⟨#[]⟩, .int .i64 0, .slice [], .slice (gs.map Fl.d)] := by simp [fRow, Fl.d, Fl.cs, Fl.ds_map, ky0]
theorem fTrue_d : fTrue.d = .agg [.int .i64 1, .int .i64 0, .int .i64 0, .int .i64 0, .str ⟨#[]⟩, .int .i64 0, .str ⟨#[]⟩, .int .i64 0, .slice [], .slice []] := by simp [fTrue, Fl.d, Fl.cs, Fl.ds, ky0]
theorem whole_ok {eb : EbG} (gs : List Fl) (hl : gs.length ≤ 1099511627776) (H : Heap) (K : A → Heap → Prop) (hK : K (.d (nwhole gs).d) H) :
  ACall Tryd.prog (seatV eb) 47 [.d (.slice (gs.map Fl.d))] H K := by
 refine ACall.hp_start ?_
 refine ACall.by mixed fn47 (by simp) ?_
 conv in s47 => cbv
 refine svc_start ?_
 simp -dsimp (maxDischargeDepth := 9) only [go_sem, zA, zB, zC, zD, zE, zF, zG, gS]
 refine newK_hp (fun b2 f2 => ?_)
 simp only [off_cons, off_nil] at f2
 simp -dsimp (maxDischargeDepth := 9) only [go_sem, zA, zB, zC, zD, zE, zF, zG, gS, f2]
 refine gif_split (fun g1 => ?_) (fun g1 => ?_)
 ·have e : gs = [] := by have := of_decide_eq_true g1; exact List.length_eq_zero_iff.1 (by omega)
  subst e
  rw [show nwhole [] = fTrue from rfl, fTrue_d] at hK
  simp -dsimp (maxDischargeDepth := 9) only [go_sem, zA, zB, zC, zD, zE, zF, zG, gS, g1, f2]
  refine retW_deep ?_
  simp -dsimp (maxDischargeDepth := 9) only [go_sem, zA, zB, zC, zD, zE, zF, zG, gS]
  exact retW_drop (G := H) (leH_hp0 (by simp only [hpS, eq_self, implies_true, f2])) (retW_is hK)
 ·have e0 : gs.length ≠ 0 := by have := of_decide_eq_false g1; omega
  simp -dsimp (maxDischargeDepth := 9) only [go_sem, zA, zB, zC, zD, zE, zF, zG, gS, g1, f2]
  refine gif_split (fun g2 => ?_) (fun g2 => ?_)
  ·obtain ⟨g, rfl⟩ : ∃ g, gs = [g] := List.length_eq_one_iff.1 (by have := of_decide_eq_true g2; omega)
   obtain ⟨k, x, y, i, c, p, xs, ys⟩ := g
   simp only [nwhole, Fl.d, Fl.cs] at hK
   simp -dsimp (maxDischargeDepth := 9) only [go_sem, zA, zB, zC, zD, zE, zF, zG, gS, g2, f2, List.map_cons, List.map_nil, List.getElem?_cons_zero, Int.toNat_zero, Fl.d, Fl.cs]
   exact retW_drop (G := H) (leH_hp0 (by simp only [hpS, eq_self, implies_true, f2])) (retW_is hK)
  ·have e1 : gs.length ≠ 1 := by have := of_decide_eq_false g2; omega
   have ew : nwhole gs = fRow 7 0 gs := by
    rcases gs with _ | ⟨a, _ | ⟨b, gs⟩⟩
    ·simp at e0
    ·simp at e1
    ·rfl
   rw [ew, fRow_d] at hK
   simp -dsimp (maxDischargeDepth := 9) only [go_sem, zA, zB, zC, zD, zE, zF, zG, gS, g2, f2]
   refine retW_deep ?_
   simp -dsimp (maxDischargeDepth := 9) only [go_sem, zA, zB, zC, zD, zE, zF, zG, gS]
   exact retW_drop (G := H) (leH_hp0 (by simp only [hpS, eq_self, implies_true, f2])) (retW_is hK)
def nequal (a b : Tm) (s : NS) : List Fl × NS :=
 if a.kind = 1 ∧ b.kind = 1 then
  (if a.name = kUnder ∨ b.name = kUnder then ([], s) else ([fSame (nnumber a.name s).1 (nnumber b.name (nnumber a.name s).2).1], (nnumber b.name (nnumber a.name s).2).2))
 else if a.kind = 1 then nunify (nnumber a.name s).1 b (nnumber a.name s).2
 else if b.kind = 1 then nunify (nnumber b.name s).1 a (nnumber b.name s).2
 else ((nunify s.next a (nfresh s).2).1 ++ (nunify s.next b (nunify s.next a (nfresh s).2).2).1, (nunify s.next b (nunify s.next a (nfresh s).2).2).2)
theorem nequal_size (a b : Tm) (s : NS) : (nequal a b s).1.length ≤ a.nodes + b.nodes ∧ s.next ≤ (nequal a b s).2.next ∧ (nequal a b s).2.next ≤ s.next + a.nodes + b.nodes := by
 unfold nequal
 have ha := a.nodes_pos
 have hb := b.nodes_pos
 split
 ·split
  ·simp; omega
  ·have h1 := nnumber_next a.name s; have h2 := nnumber_next b.name (nnumber a.name s).2; simp only [List.length_cons, List.length_nil]; omega
 ·split
  ·have h1 := nnumber_next a.name s; have h2 := nunify_size (nnumber a.name s).1 b (nnumber a.name s).2; omega
  ·split
   ·have h1 := nnumber_next b.name s; have h2 := nunify_size (nnumber b.name s).1 a (nnumber b.name s).2; omega
   ·have h1 := nunify_size s.next a (nfresh s).2
    have h2 := nunify_size s.next b (nunify s.next a (nfresh s).2).2
    simp only [nfresh, List.length_append] at h1 h2 ⊢; omega
set_option maxHeartbeats 4000000 in
theorem equal_ok {eb : EbG} (t u : Tm) (ht : t.small) (hsu : u.small) (H : Heap) (r bm : Nat) (s : NS) (h : NAt H r bm s) (hlim : s.next + t.nodes + u.nodes ≤ 1099511627773) (K : A → Heap → Prop)
  (hK : ∀ a, RowA H [r, bm] ((nequal t u s).1.map Fl.d) a → K a (withA (nset H r bm (nequal t u s).2) a 39 10 ((nequal t u s).1.map Fl.d))) :
  ACall Tryd.prog (seatV eb) 92 [.ref r 0, .d t.d, .d u.d] H K := by
 have hne := h.ne
 have hfew := h.few
 simp only [nset_is hne.2] at hK
 have hpt := t.nodes_pos
 have hpu := u.nodes_pos
 obtain ⟨k, n, i, xs⟩ := t
 obtain ⟨k2, n2, i2, xs2⟩ := u
 have hTd : (Tm.mk k n i xs).d = .agg [.int .i64 k, .str n, .int .i64 i, .slice (xs.map Tm.d)] := by simp [Tm.d, Tm.cs, Tm.ds_map]
 have hUd : (Tm.mk k2 n2 i2 xs2).d = .agg [.int .i64 k2, .str n2, .int .i64 i2, .slice (xs2.map Tm.d)] := by simp [Tm.d, Tm.cs, Tm.ds_map]
 refine ACall.nin h ?_
 refine ACall.by mixed fn92 (by simp) ?_
 conv in s92 => cbv
 refine svc_start ?_
 simp -dsimp (maxDischargeDepth := 9) only [go_sem, zA, zB, zC, zD, zE, zF, zG, gS, Tm.d, Tm.cs, Tm.ds_map]
 refine newK_hp (fun b4 f4 => ?_)
 simp only [off_cons, off_nil] at f4
 simp -dsimp (maxDischargeDepth := 9) only [go_sem, zA, zB, zC, zD, zE, zF, zG, gS, hne, f4]
 refine newK_hp (fun b5 f5 => ?_)
 simp only [off_cons, off_nil] at f5
 simp -dsimp (maxDischargeDepth := 9) only [go_sem, zA, zB, zC, zD, zE, zF, zG, gS, hne, f4, f5]
 by_cases e1 : k = 1 <;> by_cases e2 : k2 = 1
 ·have q1 : decide (k = 1) = true := decide_eq_true e1
  have q2 : decide (k2 = 1) = true := decide_eq_true e2
  have hq : nequal (.mk k n i xs) (.mk k2 n2 i2 xs2) s = if n = kUnder ∨ n2 = kUnder then ([], s) else ([fSame (nnumber n s).1 (nnumber n2 (nnumber n s).2).1], (nnumber n2 (nnumber n s).2).2) := if_pos ⟨e1, e2⟩
  rw [hq] at hK
  simp -dsimp (maxDischargeDepth := 9) only [go_sem, zA, zB, zC, zD, zE, zF, zG, gS, q1, q2, hne, f4, f5]
  refine gif_split (fun g1 => ?_) (fun g1 => ?_)
  ·have e3 : n = kUnder := of_decide_eq_true g1
   simp only [if_pos (Or.inl e3 : n = kUnder ∨ n2 = kUnder), List.map_nil] at hK
   simp -dsimp (maxDischargeDepth := 9) only [go_sem, zA, zB, zC, zD, zE, zF, zG, gS, g1, hne, f4, f5]
   exact retW_drop (G := hp H [(r, nvar s bm), (bm, nmap s)]) (leH_hp (by simp only [hpS, eq_self, implies_true, hne, f4, f5]) (by simp only [hpS, eq_self, implies_true, hne, f4, f5])) (retW_is (hK .nils (.inl ⟨rfl, rfl⟩)))
  ·have e3 : ¬ n = kUnder := of_decide_eq_false g1
   simp -dsimp (maxDischargeDepth := 9) only [go_sem, zA, zB, zC, zD, zE, zF, zG, gS, g1, hne, f4, f5]
   refine gif_split (fun g2 => ?_) (fun g2 => ?_)
   ·have e4 : n2 = kUnder := of_decide_eq_true g2
    simp only [if_pos (Or.inr e4 : n = kUnder ∨ n2 = kUnder), List.map_nil] at hK
    simp -dsimp (maxDischargeDepth := 9) only [go_sem, zA, zB, zC, zD, zE, zF, zG, gS, g2, hne, f4, f5]
    exact retW_drop (G := hp H [(r, nvar s bm), (bm, nmap s)]) (leH_hp (by simp only [hpS, eq_self, implies_true, hne, f4, f5]) (by simp only [hpS, eq_self, implies_true, hne, f4, f5])) (retW_is (hK .nils (.inl ⟨rfl, rfl⟩)))
   ·have e4 : ¬ n2 = kUnder := of_decide_eq_false g2
    simp only [if_neg (fun h => h.elim e3 e4 : ¬ (n = kUnder ∨ n2 = kUnder)), List.map_nil, List.map_cons] at hK
    have hn1 := nnumber_next n s
    simp -dsimp (maxDischargeDepth := 9) only [go_sem, zA, zB, zC, zD, zE, zF, zG, gS, g2, hne, f4, f5]
    refine number_ok _ r bm s ⟨by simp only [hpS, eq_self, implies_true, hne, f4, f5], by simp only [hpS, eq_self, implies_true, hne, f4, f5], hne, by omega⟩ n _ ?_
    simp -dsimp (maxDischargeDepth := 9) only [go_sem, zA, zB, zC, zD, zE, zF, zG, gS, hne, f4, f5]
    refine number_ok _ r bm (nnumber n s).2 ⟨by simp only [hpS, eq_self, implies_true, hne, f4, f5], by simp only [hpS, eq_self, implies_true, hne, f4, f5], hne, by omega⟩ n2 _ ?_
    simp -dsimp (maxDischargeDepth := 9) only [go_sem, zA, zB, zC, zD, zE, zF, zG, gS, hne, f4, f5]
    refine newV_hp (fun b40 v40 f40 w40 => ?_)
    simp only [off_cons, off_nil] at f40
    simp -dsimp (maxDischargeDepth := 9) only [go_sem, zA, zB, zC, zD, zE, zF, zG, gS, hne, f4, f5, f40]
    refine retW_drop (G := hp H [(r, nvar (nnumber n2 (nnumber n s).2).2 bm), (bm, nmap (nnumber n2 (nnumber n s).2).2), (b40, .arr 39 10 v40 [(fSame (nnumber n s).1 (nnumber n2 (nnumber n s).2).1).d])]) (leH_hp (by simp only [hpS, eq_self, implies_true, hne, f4, f5, f40, fSame_d]) (by simp only [hpS, eq_self, implies_true, hne, f4, f5, f40, fSame_d])) (retW_is ?_)
    exact row_new hK (by simp only [hpS, eq_self, implies_true, hne]) (show off H [(r, nvar (nnumber n2 (nnumber n s).2).2 bm), (bm, nmap (nnumber n2 (nnumber n s).2).2)] b40 by simp only [hpS, eq_self, implies_true, f40]) w40
 ·have q1 : decide (k = 1) = true := decide_eq_true e1
  have q2 : decide (k2 = 1) = false := decide_eq_false e2
  have hq : nequal (.mk k n i xs) (.mk k2 n2 i2 xs2) s = nunify (nnumber n s).1 (.mk k2 n2 i2 xs2) (nnumber n s).2 := (if_neg (fun h => e2 h.2)).trans (if_pos e1)
  rw [hq] at hK
  simp -dsimp (maxDischargeDepth := 9) only [go_sem, zA, zB, zC, zD, zE, zF, zG, gS, q1, q2, hne, f4, f5]
  have hn1 := nnumber_next n s
  refine number_ok _ r bm s ⟨by simp only [hpS, eq_self, implies_true, hne, f4, f5], by simp only [hpS, eq_self, implies_true, hne, f4, f5], hne, by omega⟩ n _ ?_
  simp -dsimp (maxDischargeDepth := 9) only [go_sem, zA, zB, zC, zD, zE, zF, zG, gS, hne, f4, f5]
  rw [← hUd]
  refine unify_ok _ (.mk k2 n2 i2 xs2) (Nat.le_refl _) hsu _ r bm (nnumber n s).2 ⟨by simp only [hpS, eq_self, implies_true, hne, f4, f5], by simp only [hpS, eq_self, implies_true, hne, f4, f5], hne, by omega⟩ (nnumber n s).1 (by omega) _ (fun a' hrow => ?_)
  generalize hu : nunify (nnumber n s).1 (.mk k2 n2 i2 xs2) (nnumber n s).2 = u at hK hrow ⊢
  obtain ⟨rows, s3⟩ := u
  simp only at hK hrow
  simp -dsimp (maxDischargeDepth := 9) only [go_sem, zA, zB, zC, zD, zE, zF, zG, gS, hne, f4, f5]
  obtain ⟨hacc', hw', hn'⟩ := (AccN.none H [r, bm]).take (E := 39) (sz := 10) (l := [(r, nvar (nnumber n s).2 bm), (bm, nmap (nnumber n s).2), (b4, .var [.d (.int .i64 k), .d (.str n), .d (.int .i64 i), .d (.slice (xs.map Tm.d))]), (b5, .var [.d (.int .i64 k2), .d (.str n2), .d (.int .i64 i2), .d (.slice (xs2.map Tm.d))])]) (by simp only [hpS, eq_self, implies_true, hne]) hrow
  rw [hw' [(r, nvar s3 bm), (bm, nmap s3), (b4, .var [.d (.int .i64 k), .d (.str n), .d (.int .i64 i), .d (.slice (xs.map Tm.d))]), (b5, .var [.d (.int .i64 k2), .d (.str n2), .d (.int .i64 i2), .d (.slice (xs2.map Tm.d))])] (fun _ h => h)]
  have f4' := hn' b4 (by simp only [hpS, eq_self, implies_true, hne, f4, f5]) f4.2.2.2.2
  have f5' := hn' b5 (by simp only [hpS, eq_self, implies_true, hne, f4, f5]) f5.2.2.2.2.2.2
  exact retW_rowX hacc' (by simp only [hpS, eq_self, implies_true, hne, f4, f5, f4', f5']) (l1 := [(r, nvar s3 bm), (bm, nmap s3)]) (by simp only [hpS, eq_self, implies_true, hne, f4, f5]) (by simp only [hpS, eq_self, implies_true, hne, f4, f5]) (fun hr => hK _ hr)
 ·have q1 : decide (k = 1) = false := decide_eq_false e1
  have q2 : decide (k2 = 1) = true := decide_eq_true e2
  have hq : nequal (.mk k n i xs) (.mk k2 n2 i2 xs2) s = nunify (nnumber n2 s).1 (.mk k n i xs) (nnumber n2 s).2 := (if_neg (fun h => e1 h.1)).trans ((if_neg e1).trans (if_pos e2))
  rw [hq] at hK
  simp -dsimp (maxDischargeDepth := 9) only [go_sem, zA, zB, zC, zD, zE, zF, zG, gS, q1, q2, hne, f4, f5]
  have hn1 := nnumber_next n2 s
  refine number_ok _ r bm s ⟨by simp only [hpS, eq_self, implies_true, hne, f4, f5], by simp only [hpS, eq_self, implies_true, hne, f4, f5], hne, by omega⟩ n2 _ ?_
  simp -dsimp (maxDischargeDepth := 9) only [go_sem, zA, zB, zC, zD, zE, zF, zG, gS, hne, f4, f5]
  rw [← hTd]
  refine unify_ok _ (.mk k n i xs) (Nat.le_refl _) ht _ r bm (nnumber n2 s).2 ⟨by simp only [hpS, eq_self, implies_true, hne, f4, f5], by simp only [hpS, eq_self, implies_true, hne, f4, f5], hne, by omega⟩ (nnumber n2 s).1 (by omega) _ (fun a' hrow => ?_)
  generalize hu : nunify (nnumber n2 s).1 (.mk k n i xs) (nnumber n2 s).2 = u at hK hrow ⊢
  obtain ⟨rows, s3⟩ := u
  simp only at hK hrow
  simp -dsimp (maxDischargeDepth := 9) only [go_sem, zA, zB, zC, zD, zE, zF, zG, gS, hne, f4, f5]
  obtain ⟨hacc', hw', hn'⟩ := (AccN.none H [r, bm]).take (E := 39) (sz := 10) (l := [(r, nvar (nnumber n2 s).2 bm), (bm, nmap (nnumber n2 s).2), (b4, .var [.d (.int .i64 k), .d (.str n), .d (.int .i64 i), .d (.slice (xs.map Tm.d))]), (b5, .var [.d (.int .i64 k2), .d (.str n2), .d (.int .i64 i2), .d (.slice (xs2.map Tm.d))])]) (by simp only [hpS, eq_self, implies_true, hne]) hrow
  rw [hw' [(r, nvar s3 bm), (bm, nmap s3), (b4, .var [.d (.int .i64 k), .d (.str n), .d (.int .i64 i), .d (.slice (xs.map Tm.d))]), (b5, .var [.d (.int .i64 k2), .d (.str n2), .d (.int .i64 i2), .d (.slice (xs2.map Tm.d))])] (fun _ h => h)]
  have f4' := hn' b4 (by simp only [hpS, eq_self, implies_true, hne, f4, f5]) f4.2.2.2.2
  have f5' := hn' b5 (by simp only [hpS, eq_self, implies_true, hne, f4, f5]) f5.2.2.2.2.2.2
  exact retW_rowX hacc' (by simp only [hpS, eq_self, implies_true, hne, f4, f5, f4', f5']) (l1 := [(r, nvar s3 bm), (bm, nmap s3)]) (by simp only [hpS, eq_self, implies_true, hne, f4, f5]) (by simp only [hpS, eq_self, implies_true, hne, f4, f5]) (fun hr => hK _ hr)
 ·have q1 : decide (k = 1) = false := decide_eq_false e1
  have q2 : decide (k2 = 1) = false := decide_eq_false e2
  have hq : nequal (.mk k n i xs) (.mk k2 n2 i2 xs2) s = ((nunify s.next (.mk k n i xs) (nfresh s).2).1 ++ (nunify s.next (.mk k2 n2 i2 xs2) (nunify s.next (.mk k n i xs) (nfresh s).2).2).1, (nunify s.next (.mk k2 n2 i2 xs2) (nunify s.next (.mk k n i xs) (nfresh s).2).2).2) := (if_neg (fun h => e1 h.1)).trans ((if_neg e1).trans (if_neg e2))
  rw [hq] at hK
  simp -dsimp (maxDischargeDepth := 9) only [go_sem, zA, zB, zC, zD, zE, zF, zG, gS, q1, q2, hne, f4, f5]
  refine fresh_ok _ r s.next (.mp bm) (by simp only [hpS, eq_self, implies_true, hne, f4, f5]) hfew _ ?_
  simp -dsimp (maxDischargeDepth := 9) only [go_sem, zA, zB, zC, zD, zE, zF, zG, gS, hne, f4, f5]
  rw [← hTd]
  refine unify_ok _ (.mk k n i xs) (Nat.le_refl _) ht _ r bm (nfresh s).2 ⟨by simp only [hpS, eq_self, implies_true, hne, f4, f5, nfresh], by simp only [hpS, eq_self, implies_true, hne, f4, f5, nfresh], hne, by simp only [nfresh]; omega⟩ s.next (by simp only [nfresh]; omega) _ (fun a' hrow => ?_)
  have hz1 := nunify_size s.next (.mk k n i xs) (nfresh s).2
  generalize hu : nunify s.next (.mk k n i xs) (nfresh s).2 = u at hK hrow hz1 ⊢
  obtain ⟨rows, s3⟩ := u
  simp only [nfresh] at hK hrow hz1
  simp -dsimp (maxDischargeDepth := 9) only [go_sem, zA, zB, zC, zD, zE, zF, zG, gS, hne, f4, f5]
  obtain ⟨hacc', hw', hn'⟩ := (AccN.none H [r, bm]).take (E := 39) (sz := 10) (l := [(r, nvar (nfresh s).2 bm), (bm, nmap (nfresh s).2), (b4, .var [.d (.int .i64 k), .d (.str n), .d (.int .i64 i), .d (.slice (xs.map Tm.d))]), (b5, .var [.d (.int .i64 k2), .d (.str n2), .d (.int .i64 i2), .d (.slice (xs2.map Tm.d))])]) (by simp only [hpS, eq_self, implies_true, hne]) hrow
  rw [hw' [(r, nvar s3 bm), (bm, nmap s3), (b4, .var [.d (.int .i64 k), .d (.str n), .d (.int .i64 i), .d (.slice (xs.map Tm.d))]), (b5, .var [.d (.int .i64 k2), .d (.str n2), .d (.int .i64 i2), .d (.slice (xs2.map Tm.d))])] (fun _ h => h)]
  have f4' := hn' b4 (by simp only [hpS, eq_self, implies_true, hne, f4, f5]) f4.2.2.2.2
  have f5' := hn' b5 (by simp only [hpS, eq_self, implies_true, hne, f4, f5]) f5.2.2.2.2.2.2
  generalize withA H a' 39 10 (rows.map Fl.d) = R3 at hacc' f4' f5' ⊢
  simp -dsimp (maxDischargeDepth := 9) only [go_sem, zA, zB, zC, zD, zE, zF, zG, gS, hne, f4, f5, f4', f5']
  rw [← hUd]
  refine unify_ok _ (.mk k2 n2 i2 xs2) (Nat.le_refl _) hsu _ r bm s3 ⟨by simp only [hpS, eq_self, implies_true, hne, f4, f5, f4', f5'], by simp only [hpS, eq_self, implies_true, hne, f4, f5, f4', f5'], hne, by omega⟩ s.next (by omega) _ (fun a2 hrow2 => ?_)
  have hz2 := nunify_size s.next (.mk k2 n2 i2 xs2) s3
  generalize hu2 : nunify s.next (.mk k2 n2 i2 xs2) s3 = u2 at hK hrow2 hz2 ⊢
  obtain ⟨rows2, s4⟩ := u2
  simp only at hK hrow2 hz2
  simp -dsimp (maxDischargeDepth := 9) only [go_sem, zA, zB, zC, zD, zE, zF, zG, gS, hne, f4, f5, f4', f5']
  obtain ⟨hacc2, hw2, hn2⟩ := hacc'.take (E := 39) (sz := 10) (l := [(r, nvar s3 bm), (bm, nmap s3), (b4, .var [.d (.int .i64 k), .d (.str n), .d (.int .i64 i), .d (.slice (xs.map Tm.d))]), (b5, .var [.d (.int .i64 k2), .d (.str n2), .d (.int .i64 i2), .d (.slice (xs2.map Tm.d))])]) (by simp only [hpS, eq_self, implies_true, hne]) hrow2
  rw [hw2 [(r, nvar s4 bm), (bm, nmap s4), (b4, .var [.d (.int .i64 k), .d (.str n), .d (.int .i64 i), .d (.slice (xs.map Tm.d))]), (b5, .var [.d (.int .i64 k2), .d (.str n2), .d (.int .i64 i2), .d (.slice (xs2.map Tm.d))])] (fun _ h => h)]
  have f42 := hn2 b4 (by simp only [hpS, eq_self, implies_true, hne, f4, f5]) f4'
  have f52 := hn2 b5 (by simp only [hpS, eq_self, implies_true, hne, f4, f5]) f5'
  generalize withA R3 a2 39 10 (rows2.map Fl.d) = R4 at hacc2 f42 f52 ⊢
  have hok4 : okK [r, bm] R4 [(r, nvar s4 bm), (bm, nmap s4), (b4, .var [.d (.int .i64 k), .d (.str n), .d (.int .i64 i), .d (.slice (xs.map Tm.d))]), (b5, .var [.d (.int .i64 k2), .d (.str n2), .d (.int .i64 i2), .d (.slice (xs2.map Tm.d))])] := by simp only [hpS, eq_self, implies_true, hne, f4, f5, f42, f52]
  rw [AccN.src (pre := []) hacc2 hok4]
  have hszs := szs_map (sz := 10) (f := Fl.d) (fun x => x.cs_length) rows2
  simp -dsimp (maxDischargeDepth := 9) only [go_sem, zA, zB, zC, zD, zE, zF, zG, gS, hszs]
  refine AccN.appTo (pre := [pcF rows2 a2]) (p := pcF rows a') (post := []) hacc2 hok4 (by simp only [hpS, eq_self, implies_true, hne]) (by simp only [List.length_map, nfresh] at hz1 hz2 ⊢; omega) (fun a5 R5 hacc5 hn5 => ?_)
  have f45 := hn5 b4 (by simp only [hpS, eq_self, implies_true, hne, f4, f5]) f42
  have f55 := hn5 b5 (by simp only [hpS, eq_self, implies_true, hne, f4, f5]) f52
  have hacc6 : AccN H [r, bm] [pcF (rows ++ rows2) a5] R5 := by
   have := hacc5.without (pre := [])
   simp only [pcF, List.map_append]; exact this
  simp -dsimp (maxDischargeDepth := 9) only [go_sem, zA, zB, zC, zD, zE, zF, zG, gS, hne, f4, f5, f45, f55]
  exact retW_rowX (ps := []) hacc6 (by simp only [hpS, eq_self, implies_true, hne, f4, f5, f45, f55]) (l1 := [(r, nvar s4 bm), (bm, nmap s4)]) (by simp only [hpS, eq_self, implies_true, hne, f4, f5, f45, f55]) (by simp only [hpS, eq_self, implies_true, hne, f4, f5]) (fun hr => hK _ hr)
end Go.Aug

/- Flat goals: what a goal comes to. -/
namespace Go.Aug
open Go.Proofs
set_option maxRecDepth 100000
set_option linter.unusedSimpArgs false
attribute [local irreducible] hid andK letA onSome onVar onArr arrOnly onInt onBool onFunc onTup idxA ldV ldD addO appTo fillL slA srcK nilQ retW gif sgd sguard svc sops sdops sagain aopO aLoad aStore aBin aUn aConv aLen aIndexAddr aIndex aIndexAddrS aIndexS aSlice aAppend aBuild aBuildSlice aMakeSlice aField aFieldOf aCallOp deepK deepL frzM putE newK newV growV ACall roundQ thenQ inBlockQ sret cnd szs nilC onMap onRow aLookup aMapUpdate aMakeMap
attribute [local go_sem] Int.natCast_zero
mutual
def Gl.nodes : Gl → Nat
 | .mk _ a b _ xs gs => 1 + a.nodes + b.nodes + Tm.nodess xs + Gl.nodess gs
def Gl.nodess : List Gl → Nat
 | [] => 0
 | g :: gs => g.nodes + Gl.nodess gs
end
theorem Gl.nodes_pos (g : Gl) : 1 ≤ g.nodes := by cases g; simp only [Gl.nodes]; omega
theorem Gl.nodess_length : ∀ gs : List Gl, gs.length ≤ Gl.nodess gs
 | [] => Nat.le_refl _
 | g :: gs => by have := g.nodes_pos; have := Gl.nodess_length gs; simp only [Gl.nodess, List.length_cons]; omega
def nplaces : List Tm → NS → List Nat × List Fl × NS
 | [], s => ([], [], s)
 | t :: ts, s => ((nplace t s).1 :: (nplaces ts (nplace t s).2.2).1, (nplace t s).2.1 ++ (nplaces ts (nplace t s).2.2).2.1, (nplaces ts (nplace t s).2.2).2.2)
theorem nplaces_len : ∀ (ts : List Tm) (s : NS), (nplaces ts s).1.length = ts.length
 | [], _ => rfl
 | t :: ts, s => by simp only [nplaces, List.length_cons, nplaces_len ts]
theorem nplaces_size : ∀ (ts : List Tm) (s : NS), (nplaces ts s).2.1.length ≤ Tm.nodess ts ∧ s.next ≤ (nplaces ts s).2.2.next ∧ (nplaces ts s).2.2.next ≤ s.next + Tm.nodess ts
 | [], s => by simp [nplaces, Tm.nodess]
 | t :: ts, s => by
  have h1 := nplace_size t s
  have h2 := nplaces_size ts (nplace t s).2.2
  simp only [nplaces, Tm.nodess, List.length_append]; omega
def fCall (q : Ky) (vs : List Nat) : Fl := .mk 6 0 0 0 ky0 q (vs.map Int.ofNat) []
theorem fCall_d (q : Ky) (vs : List Nat) : (fCall q vs).d = .agg [.int .i64 6, .int .i64 0, .int .i64 0, .int .i64 0, .str ⟨#[]⟩, .int .i64 0, .str q.name, .int .i64 q.ar, .slice (vs.map (fun (v : Nat) => D.int .i64 (v : Int))), .slice []] := by
 simp [fCall, Fl.d, Fl.cs, Fl.ds, ky0]
mutual
def ngoal : Gl → NS → List Fl × NS
 | .mk k a b n xs gs, s =>
  if k = 2 then ([fRow 2 0 []], s)
  else if k = 3 then nequal a b s
  else if k = 4 then ((nplaces xs s).2.1 ++ [fCall ⟨n, xs.length⟩ (nplaces xs s).1], (nplaces xs s).2.2)
  else if k = 8 then ((nplace a s).2.1 ++ [fRow 10 (nplace a s).1 []], (nplace a s).2.2)
  else if k = 5 then ngoals gs s
  else if k = 6 then ([fRow 8 0 (nwholes gs s).1], (nwholes gs s).2)
  else if k = 7 then ([fRow 9 0 (nwholes gs s).1], (nwholes gs s).2)
  else if k = 9 then ([fRow 11 (nnumber n s).1 (nwholes gs (nnumber n s).2).1], (nwholes gs (nnumber n s).2).2)
  else ([], s)
def ngoals : List Gl → NS → List Fl × NS
 | [], s => ([], s)
 | g :: gs, s => ((ngoal g s).1 ++ (ngoals gs (ngoal g s).2).1, (ngoals gs (ngoal g s).2).2)
def nwholes : List Gl → NS → List Fl × NS
 | [], s => ([], s)
 | g :: gs, s => (nwhole (ngoal g s).1 :: (nwholes gs (ngoal g s).2).1, (nwholes gs (ngoal g s).2).2)
end
theorem nwholes_len : ∀ (gs : List Gl) (s : NS), (nwholes gs s).1.length = gs.length
 | [], s => by simp [nwholes]
 | g :: gs, s => by simp only [nwholes, List.length_cons, nwholes_len gs]
mutual
theorem ngoal_size : ∀ (g : Gl) (s : NS), (ngoal g s).1.length ≤ g.nodes ∧ s.next ≤ (ngoal g s).2.next ∧ (ngoal g s).2.next ≤ s.next + g.nodes
 | .mk k a b n xs gs, s => by
  have h1 := nequal_size a b s
  have h2 := nplaces_size xs s
  have h3 := nplace_size a s
  have h4 := ngoals_size gs s
  have h5 := nwholes_size gs s
  have h6 := nwholes_size gs (nnumber n s).2
  have h7 := nnumber_next n s
  have ha := a.nodes_pos
  unfold ngoal
  simp only [Gl.nodes]
  split
  ·simp only [List.length_cons, List.length_nil]; omega
  ·split
   ·omega
   ·split
    ·simp only [List.length_append, List.length_cons, List.length_nil]; omega
    ·split
     ·simp only [List.length_append, List.length_cons, List.length_nil]; omega
     ·split
      ·omega
      ·split
       ·simp only [List.length_cons, List.length_nil]; omega
       ·split
        ·simp only [List.length_cons, List.length_nil]; omega
        ·split
         ·simp only [List.length_cons, List.length_nil]; omega
         ·simp only [List.length_nil]; omega
theorem ngoals_size : ∀ (gs : List Gl) (s : NS), (ngoals gs s).1.length ≤ Gl.nodess gs ∧ s.next ≤ (ngoals gs s).2.next ∧ (ngoals gs s).2.next ≤ s.next + Gl.nodess gs
 | [], s => by simp [ngoals, Gl.nodess]
 | g :: gs, s => by
  have h1 := ngoal_size g s
  have h2 := ngoals_size gs (ngoal g s).2
  simp only [ngoals, Gl.nodess, List.length_append]; omega
theorem nwholes_size : ∀ (gs : List Gl) (s : NS), s.next ≤ (nwholes gs s).2.next ∧ (nwholes gs s).2.next ≤ s.next + Gl.nodess gs
 | [], s => by simp [nwholes, Gl.nodess]
 | g :: gs, s => by
  have h1 := ngoal_size g s
  have h2 := nwholes_size gs (ngoal g s).2
  simp only [nwholes, Gl.nodess]; omega
end
end Go.Aug

/- Flat goals: the row of what goals come to. -/
namespace Go.Aug
open Nat renaming reduceBEq → zA, reduceLT → zB, reduceAdd → zC, reduceSub → zD, reduceMul → zE, reduceLeDiff → zF
open Int renaming reduceLE → zG
open Go.Proofs
set_option maxRecDepth 100000
set_option linter.unusedSimpArgs false
attribute [local irreducible] hid andK letA onSome onVar onArr arrOnly onInt onBool onFunc onTup idxA ldV ldD addO appTo fillL slA srcK nilQ retW gif sgd sguard svc sops sdops sagain aopO aLoad aStore aBin aUn aConv aLen aIndexAddr aIndex aIndexAddrS aIndexS aSlice aAppend aBuild aBuildSlice aMakeSlice aField aFieldOf aCallOp deepK deepL frzM putE newK newV growV ACall roundQ thenQ inBlockQ sret cnd szs nilC onMap onRow aLookup aMapUpdate aMakeMap
attribute [local go_sem] Int.natCast_zero
def GoalC (eb : EbG) (g : Gl) : Prop := ∀ (H : Heap) (r bm : Nat) (s : NS) (_ : NAt H r bm s) (_ : s.next + g.nodes ≤ 1099511627773) (K : A → Heap → Prop)
  (_ : ∀ a, RowA H [r, bm] ((ngoal g s).1.map Fl.d) a → K a (withA (nset H r bm (ngoal g s).2) a 39 10 ((ngoal g s).1.map Fl.d))),
  ACall Tryd.prog (seatV eb) 48 [.ref r 0, .d g.d] H K
set_option maxHeartbeats 4000000 in
theorem wholes_ok {eb : EbG} (gs : List Gl) (hl : gs.length ≤ 32768) (ih : ∀ g ∈ gs, GoalC eb g) (H : Heap) (r bm : Nat) (s : NS) (h : NAt H r bm s) (hlim : s.next + Gl.nodess gs ≤ 1099511627773) (K : A → Heap → Prop)
  (hK : K (.d (.slice ((nwholes gs s).1.map Fl.d))) (nset H r bm (nwholes gs s).2)) :
  ACall Tryd.prog (seatV eb) 94 [.ref r 0, .d (.slice (gs.map Gl.d))] H K := by
 have hne := h.ne
 have hfew := h.few
 simp only [nset_is hne.2] at hK
 refine ACall.nin h ?_
 refine ACall.by mixed fn94 (by simp) ?_
 conv in s94 => cbv
 refine svc_start ?_
 simp -dsimp (maxDischargeDepth := 9) only [go_sem, zA, zB, zC, zD, zE, zF, zG, gS]
 refine svc_loop (X := Nat × List Fl × NS × A × Heap) (fun y => [(0, .ref r 0), (5, y.2.2.2.1), (8, .d (.slice (gs.map Gl.d))), (9, .d (.int .i64 gs.length)), (10, .d (.int .i64 y.1))])
  (fun y G => G = hp y.2.2.2.2 [(r, nvar y.2.2.1 bm), (bm, nmap y.2.2.1)] ∧ AccN H [r, bm] [pcF y.2.1 y.2.2.2.1] y.2.2.2.2 ∧ y.1 ≤ gs.length ∧ (y.2.1 ++ (nwholes (gs.drop y.1) y.2.2.1).1, (nwholes (gs.drop y.1) y.2.2.1).2) = nwholes gs s ∧ y.2.2.1.next + Gl.nodess (gs.drop y.1) ≤ s.next + Gl.nodess gs ∧ y.2.1.length = y.1)
  (fun y => gs.length - y.1) (0, [], s, .nils, H) _ ⟨rfl, (AccN.none H [r, bm]).nil _ _, by simp, by simp, by simp, rfl⟩ (by simp -dsimp (maxDischargeDepth := 9) only [go_sem, zA, zB, zC, zD, zE, zF, zG, gS]) (leH_hp (by simp only [hpS, eq_self, implies_true, hne]) (by simp only [hpS, eq_self, implies_true, hne])) ?_
 rintro ⟨j, out, s1, a, R⟩ G ⟨hG, hacc, hj, hrun, hnx, hout⟩
 simp only at hG hacc hj hrun hnx hout
 subst hG
 simp -dsimp (maxDischargeDepth := 9) only [go_sem, zA, zB, zC, zD, zE, zF, zG, gS]
 refine gif_split (fun q1 => ?_) (fun q1 => ?_)
 ·have q1' : j < gs.length := by have := of_decide_eq_true q1; omega
  obtain ⟨⟨k, ⟨k1, n1, i1, xs1⟩, ⟨k2, n2, i2, xs2⟩, n, xs, gs1⟩, hx⟩ := list_at q1'
  have hwj := wrapN (k := j) (by omega)
  rw [drop_at hx] at hrun hnx
  simp only [nwholes, Gl.nodess] at hrun hnx
  simp -dsimp (maxDischargeDepth := 9) only [go_sem, zA, zB, zC, zD, zE, zF, zG, gS, q1, hx, Gl.d, Gl.cs, Tm.cs, List.cons_append, List.nil_append]
  refine newK_hp (fun b7 f7 => ?_)
  simp only [off_cons, off_nil] at f7
  simp -dsimp (maxDischargeDepth := 9) only [go_sem, zA, zB, zC, zD, zE, zF, zG, gS, hne, f7]
  have hgs := ngoal_size (.mk k (.mk k1 n1 i1 xs1) (.mk k2 n2 i2 xs2) n xs gs1) s1
  refine ih (.mk k (.mk k1 n1 i1 xs1) (.mk k2 n2 i2 xs2) n xs gs1) (List.mem_of_getElem? hx) _ r bm s1 ⟨by simp only [hpS, eq_self, implies_true, hne, f7], by simp only [hpS, eq_self, implies_true, hne, f7], hne, by omega⟩ (by omega) _ (fun a' hrow => ?_)
  generalize hu : ngoal (.mk k (.mk k1 n1 i1 xs1) (.mk k2 n2 i2 xs2) n xs gs1) s1 = u at hrun hgs hrow ⊢
  obtain ⟨rows, s2⟩ := u
  simp only at hrun hgs hrow
  simp -dsimp (maxDischargeDepth := 9) only [go_sem, zA, zB, zC, zD, zE, zF, zG, gS, hne, f7]
  obtain ⟨hacc', hw', hn'⟩ := hacc.take (E := 39) (sz := 10) (l := [(r, nvar s1 bm), (bm, nmap s1), (b7, .var [.d (.int .i64 k), .d (.int .i64 k1), .d (.str n1), .d (.int .i64 i1), .d (.slice (Tm.ds xs1)), .d (.int .i64 k2), .d (.str n2), .d (.int .i64 i2), .d (.slice (Tm.ds xs2)), .d (.str n), .d (.slice (xs.map Tm.d)), .d (.slice (Gl.ds gs1))])]) (by simp only [hpS, eq_self, implies_true, hne]) hrow
  rw [hw' [(r, nvar s2 bm), (bm, nmap s2), (b7, .var [.d (.int .i64 k), .d (.int .i64 k1), .d (.str n1), .d (.int .i64 i1), .d (.slice (Tm.ds xs1)), .d (.int .i64 k2), .d (.str n2), .d (.int .i64 i2), .d (.slice (Tm.ds xs2)), .d (.str n), .d (.slice (xs.map Tm.d)), .d (.slice (Gl.ds gs1))])] (fun _ h => h)]
  have f7' := hn' b7 (by simp only [hpS, eq_self, implies_true, hne, f7]) f7.2.2.2.2
  generalize withA R a' 39 10 (rows.map Fl.d) = R3 at hacc' f7' ⊢
  have hok3 : okK [r, bm] R3 [(r, nvar s2 bm), (bm, nmap s2), (b7, .var [.d (.int .i64 k), .d (.int .i64 k1), .d (.str n1), .d (.int .i64 i1), .d (.slice (Tm.ds xs1)), .d (.int .i64 k2), .d (.str n2), .d (.int .i64 i2), .d (.slice (Tm.ds xs2)), .d (.str n), .d (.slice (xs.map Tm.d)), .d (.slice (Gl.ds gs1))])] := by simp only [hpS, eq_self, implies_true, hne, f7, f7']
  refine ACall.frz [true] ?_
  simp only [frzM]
  refine AccN.deep (pre := []) hacc' hok3 (fun R4 hacc4 hn4 => ?_)
  have f74 := hn4 b7 f7'
  refine whole_ok rows (by omega) _ _ ?_
  generalize hnw : nwhole rows = w at hrun ⊢
  obtain ⟨wk, wx, wy, wi, wc, wp, wxs, wgs⟩ := w
  simp -dsimp (maxDischargeDepth := 9) only [go_sem, zA, zB, zC, zD, zE, zF, zG, gS, hne, f7, f74, Fl.d, Fl.cs]
  refine newV_hp (fun b19 v19 f19 w19 => ?_)
  simp only [off_cons, off_nil] at f19
  simp -dsimp (maxDischargeDepth := 9) only [go_sem, zA, zB, zC, zD, zE, zF, zG, gS, hne, f7, f74, f19]
  refine AccN.appTo (pre := []) (p := pcF out a) (post := []) hacc4 (by simp only [hpS, eq_self, implies_true, hne, f7, f74, f19]) (by simp only [hpS, eq_self, implies_true, hne]) (by simp only [List.length_map, List.length_cons, List.length_nil]; omega) (fun a2 R5 hacc5 hn5 => ?_)
  have f75 := hn5 b7 (by simp only [hpS, eq_self, implies_true, hne, f7, f74, f19]) f74
  have f195 := hn5 b19 (by simp only [hpS, eq_self, implies_true, hne, f7, f74, f19]) f19.2.2.2.2.2.2
  have hacc6 : AccN H [r, bm] [pcF (out ++ [(.mk wk wx wy wi wc wp wxs wgs)]) a2] R5 := by
   simp only [pcF, List.map_append]; exact hacc5
  simp -dsimp (maxDischargeDepth := 9) only [go_sem, zA, zB, zC, zD, zE, zF, zG, gS, hne, f7, f75, f19, f195, hwj]
  refine roundQ_next (j + 1, out ++ [(.mk wk wx wy wi wc wp wxs wgs)], s2, a2, R5) _ ⟨rfl, hacc6, q1', by rw [← hrun]; simp, by simp only; omega, by simp [hout]⟩ (by simp only; omega) (by simp -dsimp (maxDischargeDepth := 9) only [go_sem, zA, zB, zC, zD, zE, zF, zG, gS]) (leH_hp (by simp only [hpS, eq_self, implies_true, hne, f7, f75, f19, f195]) (by simp only [hpS, eq_self, implies_true, hne, f7, f75, f19, f195]))
 ·rw [drop_end (by have := of_decide_eq_false q1; omega)] at hrun
  simp only [nwholes, List.append_nil] at hrun
  rw [← hrun] at hK
  simp -dsimp (maxDischargeDepth := 9) only [go_sem, zA, zB, zC, zD, zE, zF, zG, gS, q1, hne]
  refine retW_deep ?_
  refine AccN.deep (pre := []) hacc (by simp only [hpS, eq_self, implies_true, hne]) (fun R4 hacc4 hn4 => ?_)
  exact retW_drop (G := hp H [(r, nvar s1 bm), (bm, nmap s1)]) (leH_hp2 hacc4.le (by simp only [hpS, eq_self, implies_true, hne]) (by simp only [hpS, eq_self, implies_true, hne])) (retW_is hK)
end Go.Aug
