/- The contracts of flat goals, and of what an index has; conditions stand in each contract. -/
import Derived.Test.YtejfagblpbmokaaDoorNamesTwo
import Derived.Test.YtejfagblpbmokaaDoorAugSeven
set_option linter.all false
set_option linter.unusedVariables false
set_option linter.unusedSimpArgs false
set_option linter.unusedSectionVars false

/- Flat goals: the numbering of a clause's variables. -/
namespace Go.Aug
open Go.Proofs
set_option maxRecDepth 100000
set_option linter.unusedSimpArgs false
attribute [local irreducible] hid andK letA onSome onVar onArr arrOnly onInt onBool onTup idxA ldV ldD addO appTo fillL slA srcK nilQ retW gif sgd sguard svc sops sdops sagain aopO aLoad aStore aBin aUn aConv aLen aIndexAddr aIndex aIndexAddrS aIndexS aSlice aAppend aBuild aBuildSlice aMakeSlice aField aFieldOf aCallOp deepK deepL frzM putE newK newV growV ACall roundQ thenQ inBlockQ sret cnd szs nilC onMap onRow aLookup aMapUpdate aMakeMap
attribute [local go_sem] Int.natCast_zero
inductive Fl where
 | mk (kind x y int : Int) (ctor pred : Ky) (args : List Int) (goals : List Fl)
mutual
def Fl.cs : Fl → List D
 | .mk k x y i c p xs gs => [.int .i64 k, .int .i64 x, .int .i64 y, .int .i64 i, .str c.name, .int .i64 c.ar, .str p.name, .int .i64 p.ar, .slice (xs.map (.int .i64)), .slice (Fl.ds gs)]
def Fl.ds : List Fl → List D
 | [] => []
 | t :: ts => .agg t.cs :: Fl.ds ts
end
def Fl.d (t : Fl) : D := .agg t.cs
theorem Fl.ds_map : ∀ xs : List Fl, Fl.ds xs = xs.map Fl.d
 | [] => rfl
 | t :: ts => by simp only [Fl.ds, List.map_cons, Fl.ds_map ts]; rfl
theorem Fl.cs_length (t : Fl) : t.cs.length = 10 := by cases t; simp [Fl.cs]
def ky0 : Ky := ⟨⟨#[]⟩, 0⟩
/-- The numbering: what is next, the names' numbers. -/
structure NS where
 next : Nat
 names : List (ByteArray × Nat)
def enc (m : List (ByteArray × Nat)) : List (D × D) := m.map fun p => (.str p.1, .int .i64 p.2)
def nfind : List (ByteArray × Nat) → ByteArray → Option Nat
 | [], _ => none
 | (a, v) :: m, n => if n = a then some v else nfind m n
def nput : List (ByteArray × Nat) → ByteArray → Nat → List (ByteArray × Nat)
 | [], n, v => [(n, v)]
 | (a, w) :: m, n, v => if n = a then (a, v) :: m else (a, w) :: nput m n v
theorem mget_enc (n : ByteArray) : ∀ m : List (ByteArray × Nat), mget (enc m) (.str n) = (nfind m n).map fun (v : Nat) => D.int .i64 (v : Int)
 | [] => rfl
 | (a, v) :: m => by
  simp only [enc, List.map_cons, mget, keq, leq, nfind, decide_eq_true_eq]
  split
  ·rfl
  ·exact mget_enc n m
theorem mput_enc (n : ByteArray) (v : Nat) : ∀ m : List (ByteArray × Nat), mput (enc m) (.str n) (.int .i64 v) = enc (nput m n v)
 | [] => rfl
 | (a, w) :: m => by
  simp only [enc, List.map_cons, mput, keq, leq, nput, decide_eq_true_eq]
  split
  ·rfl
  ·rw [List.map_cons]; congr 1; exact mput_enc n v m
abbrev nvar (s : NS) (bm : Nat) : AObj := .var [.d (.int .i64 s.next), .mp bm]
abbrev nmap (s : NS) : AObj := .map (.one .str) (enc s.names)
def nset (H : Heap) (r bm : Nat) (s : NS) : Heap := upd (upd H r (nvar s bm)) bm (nmap s)
@[go_sem] theorem nset_hp {R : Heap} {lst : List (Nat × AObj)} {r bm : Nat} {s : NS} : nset (hp R lst) r bm s = hp R (setL bm (nmap s) (setL r (nvar s bm) lst)) := by rw [nset, upd_hp, upd_hp]
structure NAt (H : Heap) (r bm : Nat) (s : NS) : Prop where
 v : H r = some (nvar s bm)
 m : H bm = some (nmap s)
 ne : eqn r bm = false ∧ eqn bm r = false
 few : s.next < 1099511627775
theorem NAt.hp {H : Heap} {r bm : Nat} {s : NS} (h : NAt H r bm s) : hp H [(r, nvar s bm), (bm, nmap s)] = H := by
 funext j; simp only [Aug.hp, upd]; split
 ·rename_i e; rw [e, h.v]
 ·split
  ·rename_i e; rw [e, h.m]
  ·rfl
theorem ACall.nin {P : Program} {V : Env} {f : FuncId} {args : List A} {K : A → Heap → Prop} {H : Heap} {r bm : Nat} {s : NS} (h : NAt H r bm s) (k : ACall P V f args (Aug.hp H [(r, nvar s bm), (bm, nmap s)]) K) : ACall P V f args H K := by rw [h.hp] at k; exact k
theorem nset_is {H : Heap} {r bm : Nat} {s : NS} (h : eqn bm r = false) : nset H r bm s = Aug.hp H [(r, nvar s bm), (bm, nmap s)] := by
 have h' := eqn_false h
 funext j; simp only [nset, Aug.hp, upd]; split <;> split <;> simp_all
def nfresh (s : NS) : Nat × NS := (s.next, ⟨s.next + 1, s.names⟩)
def kUnder : ByteArray := ⟨#[95]⟩
def nnumber (n : ByteArray) (s : NS) : Nat × NS :=
 if n = kUnder then nfresh s else match nfind s.names n with
  | some v => (v, s)
  | none => (s.next, ⟨s.next + 1, nput s.names n s.next⟩)
theorem fresh_ok {eb : EbG} (H : Heap) (r : Nat) (n : Nat) (a : A) (h : H r = some (.var [.d (.int .i64 n), a])) (hn : n < 1099511627775) (K : A → Heap → Prop) (hK : K (.d (.int .i64 n)) (upd H r (.var [.d (.int .i64 ((n + 1 : Nat) : Int)), a]))) :
  ACall Tryd.prog (seatV eb) 90 [.ref r 0] H K := by
 have hw := wrapN (k := n) (by omega)
 have hw2 : IntKind.i64.wrap (((n + 1 : Nat) : Int) - 1) = (n : Int) := by rw [wrap64 (by omega) (by omega)]; omega
 refine ACall.hp_in h ?_
 refine ACall.by mixed fn90 (by simp) ?_
 conv in s90 => cbv
 refine svc_start ?_
 simp -dsimp only [go_sem, gS, hw, hw2]
 exact retW_is hK
theorem number_ok {eb : EbG} (H : Heap) (r bm : Nat) (s : NS) (h : NAt H r bm s) (nm : ByteArray) (K : A → Heap → Prop) (hK : K (.d (.int .i64 (nnumber nm s).1)) (nset H r bm (nnumber nm s).2)) :
  ACall Tryd.prog (seatV eb) 89 [.ref r 0, .d (.str nm)] H K := by
 have hne := h.ne
 rw [nset_is hne.2] at hK
 refine ACall.nin h ?_
 refine ACall.by mixed fn89 (by simp) ?_
 conv in s89 => cbv
 refine svc_start ?_
 simp -dsimp only [go_sem, gS]
 refine gif_split (fun g1 => ?_) (fun g1 => ?_)
 ·have e : nm = kUnder := of_decide_eq_true g1
  rw [nnumber, if_pos e] at hK
  simp -dsimp only [go_sem, gS, g1]
  refine fresh_ok _ r s.next (.mp bm) (by simp only [hpS, eq_self, implies_true, hne]) h.few _ ?_
  simp -dsimp only [go_sem, gS, hne]
  exact retW_is hK
 ·have e : nm ≠ kUnder := of_decide_eq_false g1
  rw [nnumber, if_neg e] at hK
  simp -dsimp only [go_sem, gS, g1, hne, mget_enc]
  cases hf : nfind s.names nm with
  | some v =>
   rw [hf] at hK
   simp -dsimp only [go_sem, gS, hne, Option.map_some, Option.getD_some, Option.isSome_some]
   exact retW_is hK
  | none =>
   rw [hf] at hK
   simp -dsimp only [go_sem, gS, hne, Option.map_none, Option.getD_none, Option.isSome_none]
   refine fresh_ok _ r s.next (.mp bm) (by simp only [hpS, eq_self, implies_true, hne]) h.few _ ?_
   simp -dsimp only [go_sem, gS, hne, mput_enc]
   exact retW_is hK
end Go.Aug

/- Flat goals: the row of a number and a term. -/
namespace Go.Aug
open Go.Proofs
set_option maxRecDepth 100000
set_option linter.unusedSimpArgs false
attribute [local irreducible] hid andK letA onSome onVar onArr arrOnly onInt onBool onTup idxA ldV ldD addO appTo fillL slA srcK nilQ retW gif sgd sguard svc sops sdops sagain aopO aLoad aStore aBin aUn aConv aLen aIndexAddr aIndex aIndexAddrS aIndexS aSlice aAppend aBuild aBuildSlice aMakeSlice aField aFieldOf aCallOp deepK deepL frzM putE newK newV growV ACall roundQ thenQ inBlockQ sret cnd szs nilC onMap onRow aLookup aMapUpdate aMakeMap
attribute [local go_sem] Int.natCast_zero
mutual
def Tm.nodes : Tm → Nat
 | .mk _ _ _ xs => 1 + Tm.nodess xs
def Tm.nodess : List Tm → Nat
 | [] => 0
 | t :: ts => t.nodes + Tm.nodess ts
end
theorem Tm.nodes_pos (t : Tm) : 1 ≤ t.nodes := by cases t; simp only [Tm.nodes]; omega
theorem Tm.nodess_length : ∀ ts : List Tm, ts.length ≤ Tm.nodess ts
 | [] => Nat.le_refl _
 | t :: ts => by have := t.nodes_pos; have := Tm.nodess_length ts; simp only [Tm.nodess, List.length_cons]; omega
/-- The numbers of a constructor's arguments. -/
def nargs : List Tm → NS → List Nat × NS
 | [], s => ([], s)
 | .mk k n _ _ :: ts, s =>
  let p := if k = 1 then nnumber n s else nfresh s
  (p.1 :: (nargs ts p.2).1, (nargs ts p.2).2)
def fSame (x y : Int) : Fl := .mk 3 x y 0 ky0 ky0 [] []
def fInt (x i : Int) : Fl := .mk 4 x 0 i ky0 ky0 [] []
def fCtor (x : Int) (q : Ky) (vs : List Nat) : Fl := .mk 5 x 0 0 q ky0 (vs.map Int.ofNat) []
mutual
def nunify (x : Nat) : Tm → NS → List Fl × NS
 | .mk k n i ts, s =>
  if k = 1 then (if n = kUnder then ([], s) else match nfind s.names n with
   | some v => ([fSame x v], s)
   | none => ([], ⟨s.next, nput s.names n x⟩))
  else if k = 2 then ([fInt x i], s)
  else (fCtor x ⟨n, ts.length⟩ (nargs ts s).1 :: (nunifys (nargs ts s).1 ts (nargs ts s).2).1, (nunifys (nargs ts s).1 ts (nargs ts s).2).2)
def nunifys : List Nat → List Tm → NS → List Fl × NS
 | a :: vs, .mk k n i ts :: rest, s =>
  if k = 1 then nunifys vs rest s
  else ((nunify a (.mk k n i ts) s).1 ++ (nunifys vs rest (nunify a (.mk k n i ts) s).2).1, (nunifys vs rest (nunify a (.mk k n i ts) s).2).2)
 | _, _, s => ([], s)
end
theorem nnumber_next (n : ByteArray) (s : NS) : s.next ≤ (nnumber n s).2.next ∧ (nnumber n s).2.next ≤ s.next + 1 := by
 unfold nnumber nfresh
 split
 ·simp
 ·split <;> simp
theorem nargs_len : ∀ (ts : List Tm) (s : NS), (nargs ts s).1.length = ts.length
 | [], _ => rfl
 | .mk k n _ _ :: ts, s => by simp only [nargs, List.length_cons]; rw [nargs_len ts]
theorem nargs_next : ∀ (ts : List Tm) (s : NS), s.next ≤ (nargs ts s).2.next ∧ (nargs ts s).2.next ≤ s.next + ts.length
 | [], s => by simp [nargs]
 | .mk k n _ _ :: ts, s => by
  simp only [nargs, List.length_cons]
  split
  ·have := nnumber_next n s; have := nargs_next ts (nnumber n s).2; omega
  ·have := nargs_next ts (nfresh s).2; simp only [nfresh] at this ⊢; omega
mutual
theorem nunify_size (x : Nat) : ∀ (t : Tm) (s : NS), (nunify x t s).1.length ≤ t.nodes ∧ s.next ≤ (nunify x t s).2.next ∧ (nunify x t s).2.next + 1 ≤ s.next + t.nodes
 | .mk k n i ts, s => by
  simp only [nunify, Tm.nodes]
  repeat' split
  all_goals (try (simp only [List.length_nil, List.length_cons]; omega))
  have h1 := nargs_next ts s
  have h2 := nunifys_size (nargs ts s).1 ts (nargs ts s).2
  have h3 := nargs_len ts s
  simp only [List.length_cons]; omega
theorem nunifys_size : ∀ (vs : List Nat) (ts : List Tm) (s : NS), (nunifys vs ts s).1.length ≤ Tm.nodess ts ∧ s.next ≤ (nunifys vs ts s).2.next ∧ (nunifys vs ts s).2.next + ts.length ≤ s.next + Tm.nodess ts
 | a :: vs, .mk k n i ts :: rest, s => by
  simp only [nunifys, Tm.nodess, List.length_cons]
  split
  ·have h := nunifys_size vs rest s
   have := (Tm.mk k n i ts).nodes_pos
   omega
  ·have h1 := nunify_size a (.mk k n i ts) s
   have h2 := nunifys_size vs rest (nunify a (.mk k n i ts) s).2
   simp only [List.length_append]; omega
 | [], ts, s => by have := Tm.nodess_length ts; simp only [nunifys, List.length_nil]; omega
 | a :: vs, [], s => by simp [nunifys, Tm.nodess]
end
end Go.Aug

/- Flat goals: the row of a number and a term: the walk. -/
namespace Go.Aug
open Go.Proofs
set_option maxRecDepth 100000
set_option linter.unusedSimpArgs false
attribute [local irreducible] hid andK letA onSome onVar onArr arrOnly onInt onBool onTup idxA ldV ldD addO appTo fillL slA srcK nilQ retW gif sgd sguard svc sops sdops sagain aopO aLoad aStore aBin aUn aConv aLen aIndexAddr aIndex aIndexAddrS aIndexS aSlice aAppend aBuild aBuildSlice aMakeSlice aField aFieldOf aCallOp deepK deepL frzM putE newK newV growV ACall roundQ thenQ inBlockQ sret cnd szs nilC onMap onRow aLookup aMapUpdate aMakeMap
attribute [local go_sem] Int.natCast_zero
theorem keyOfF_ok {eb : EbG} (H : Heap) (t : Tm) (K : A → Heap → Prop) (hK : K (.d (Ky.d ⟨t.name, t.args.length⟩)) H) :
  ACall Tryd.prog (seatV eb) 91 [.d t.d] H K := by
 obtain ⟨k, n, i, xs⟩ := t
 refine ACall.hp_start ?_
 refine ACall.by mixed fn91 (by simp) ?_
 conv in s91 => cbv
 refine svc_start ?_
 simp -dsimp only [go_sem, gS, Tm.d, Tm.cs, Tm.ds_map]
 refine newK_hp (fun b1 f1 => ?_)
 simp only [off_cons, off_nil] at f1
 simp -dsimp only [go_sem, gS, f1]
 refine newK_hp (fun b2 f2 => ?_)
 simp only [off_cons, off_nil] at f2
 simp -dsimp only [go_sem, gS, f1, f2]
 exact retW_drop (G := H) (leH_hp0 (by simp only [hpS, eq_self, implies_true, f1, f2])) (retW_is hK)
theorem fSame_d (x y : Int) : (fSame x y).d = .agg [.int .i64 3, .int .i64 x, .int .i64 y, .int .i64 0, .str ⟨#[]⟩, .int .i64 0, .str ⟨#[]⟩, .int .i64 0, .slice [], .slice []] := by simp [fSame, Fl.d, Fl.cs, Fl.ds, ky0]
theorem fInt_d (x i : Int) : (fInt x i).d = .agg [.int .i64 4, .int .i64 x, .int .i64 0, .int .i64 i, .str ⟨#[]⟩, .int .i64 0, .str ⟨#[]⟩, .int .i64 0, .slice [], .slice []] := by simp [fInt, Fl.d, Fl.cs, Fl.ds, ky0]
theorem fCtor_d (x : Int) (q : Ky) (vs : List Nat) : (fCtor x q vs).d = .agg [.int .i64 5, .int .i64 x, .int .i64 0, .int .i64 0, .str q.name, .int .i64 q.ar, .str ⟨#[]⟩, .int .i64 0, .slice (vs.map fun (v : Nat) => .int .i64 (v : Int)), .slice []] := by simp [fCtor, Fl.d, Fl.cs, Fl.ds, ky0]
abbrev pcF (l : List Fl) (a : A) : Pc := ⟨39, 10, l.map Fl.d, a⟩
theorem set_nums (l : List Nat) (n m : Nat) : (l.map (fun (v : Nat) => D.int .i64 (v : Int)) ++ List.replicate (n + 1) (D.int .i64 0)).set l.length (D.int .i64 (m : Int)) = (l ++ [m]).map (fun (v : Nat) => D.int .i64 (v : Int)) ++ List.replicate n (D.int .i64 0) := by
 rw [List.set_append_right _ _ (by simp)]
 simp [List.replicate_succ]
set_option maxHeartbeats 8000000 in
theorem unify_ok {eb : EbG} : ∀ (m : Nat) (t : Tm), _root_.SizeOf.sizeOf t ≤ m → t.small → ∀ (H : Heap) (r bm : Nat) (s : NS) (_ : NAt H r bm s) (x : Nat) (_ : s.next + t.nodes ≤ 1099511627774) (K : A → Heap → Prop)
  (_ : ∀ a, RowA H [r, bm] ((nunify x t s).1.map Fl.d) a → K a (withA (nset H r bm (nunify x t s).2) a 39 10 ((nunify x t s).1.map Fl.d))),
  ACall Tryd.prog (seatV eb) 46 [.ref r 0, .d (.int .i64 x), .d t.d] H K
 | 0, .mk k nm i ts, hm, _, _, _, _, _, _, _, _, _, _ => by simp at hm
 | m + 1, .mk k nm i ts, hm, hs, H, r, bm, s, h, x, hlim, K, hK => by
  have hne := h.ne
  simp only [nset_is hne.2] at hK
  simp only [Tm.small] at hs
  simp only [Tm.nodes] at hlim
  have ih : ∀ t ∈ ts, ∀ (H : Heap) (r bm : Nat) (s : NS) (_ : NAt H r bm s) (x : Nat) (_ : s.next + t.nodes ≤ 1099511627774) (K : A → Heap → Prop)
   (_ : ∀ a, RowA H [r, bm] ((nunify x t s).1.map Fl.d) a → K a (withA (nset H r bm (nunify x t s).2) a 39 10 ((nunify x t s).1.map Fl.d))),
   ACall Tryd.prog (seatV eb) 46 [.ref r 0, .d (.int .i64 x), .d t.d] H K := fun t ht =>
    unify_ok m t (by have := List.sizeOf_lt_of_mem ht; simp only [Tm.mk.sizeOf_spec] at hm; omega) (Tm.smalls_mem hs.2 t ht)
  refine ACall.nin h ?_
  refine ACall.by mixed fn46 (by simp) ?_
  conv in s46 => cbv
  refine svc_start ?_
  simp -dsimp only [go_sem, gS, Tm.d, Tm.cs, Tm.ds_map]
  refine newK_hp (fun b5 f5 => ?_)
  simp only [off_cons, off_nil] at f5
  simp -dsimp only [go_sem, gS, hne, f5]
  refine gif_split (fun g1 => ?_) (fun g1 => ?_)
  ·have e1 : k = 1 := of_decide_eq_true g1
   simp only [nunify, if_pos e1] at hK
   simp -dsimp only [go_sem, gS, g1, hne, f5]
   refine gif_split (fun g2 => ?_) (fun g2 => ?_)
   ·have e2 : nm = kUnder := of_decide_eq_true g2
    simp only [if_pos e2, List.map_nil] at hK
    simp -dsimp only [go_sem, gS, g2, hne, f5]
    exact retW_drop (G := hp H [(r, nvar s bm), (bm, nmap s)]) (leH_hp (by simp only [hpS, eq_self, implies_true, hne, f5]) (by simp only [hpS, eq_self, implies_true, hne, f5])) (retW_is (hK .nils (.inl ⟨rfl, rfl⟩)))
   ·have e2 : nm ≠ kUnder := of_decide_eq_false g2
    simp only [if_neg e2] at hK
    simp -dsimp only [go_sem, gS, g2, hne, f5, mget_enc]
    cases hf : nfind s.names nm with
    | some v =>
     simp only [hf, List.map_cons, List.map_nil] at hK
     simp -dsimp only [go_sem, gS, hne, f5, Option.map_some, Option.getD_some, Option.isSome_some]
     refine newV_hp (fun b44 v44 f44 w44 => ?_)
     simp only [off_cons, off_nil] at f44
     simp -dsimp only [go_sem, gS, hne, f5, f44]
     refine retW_drop (G := hp H [(r, nvar s bm), (bm, nmap s), (b44, .arr 39 10 v44 [(fSame x v).d])]) (leH_hp (by simp only [hpS, eq_self, implies_true, hne, f5, f44, fSame_d]) (by simp only [hpS, eq_self, implies_true, hne, f5, f44, fSame_d])) (retW_is ?_)
     exact row_new hK (by simp only [hpS, eq_self, implies_true, hne]) (show off H [(r, nvar s bm), (bm, nmap s)] b44 by simp only [hpS, eq_self, implies_true, f44]) w44
    | none =>
     simp only [hf, List.map_nil] at hK
     simp -dsimp only [go_sem, gS, hne, f5, Option.map_none, Option.getD_none, Option.isSome_none, mput_enc]
     exact retW_drop (G := hp H [(r, nvar ⟨s.next, nput s.names nm x⟩ bm), (bm, nmap ⟨s.next, nput s.names nm x⟩)]) (leH_hp (by simp only [hpS, eq_self, implies_true, hne, f5]) (by simp only [hpS, eq_self, implies_true, hne, f5])) (retW_is (hK .nils (.inl ⟨rfl, rfl⟩)))
  ·have e1 : k ≠ 1 := of_decide_eq_false g1
   simp -dsimp only [go_sem, gS, g1, hne, f5]
   refine gif_split (fun g2 => ?_) (fun g2 => ?_)
   ·have e2 : k = 2 := of_decide_eq_true g2
    simp only [nunify, if_neg e1, if_pos e2, List.map_cons, List.map_nil] at hK
    simp -dsimp only [go_sem, gS, g2, hne, f5]
    refine newV_hp (fun b51 v51 f51 w51 => ?_)
    simp only [off_cons, off_nil] at f51
    simp -dsimp only [go_sem, gS, hne, f5, f51]
    refine retW_drop (G := hp H [(r, nvar s bm), (bm, nmap s), (b51, .arr 39 10 v51 [(fInt x i).d])]) (leH_hp (by simp only [hpS, eq_self, implies_true, hne, f5, f51, fInt_d]) (by simp only [hpS, eq_self, implies_true, hne, f5, f51, fInt_d])) (retW_is ?_)
    exact row_new hK (by simp only [hpS, eq_self, implies_true, hne]) (show off H [(r, nvar s bm), (bm, nmap s)] b51 by simp only [hpS, eq_self, implies_true, f51]) w51
   ·have e2 : k ≠ 2 := of_decide_eq_false g2
    simp only [nunify, if_neg e1, if_neg e2, List.map_cons] at hK
    simp -dsimp only [go_sem, gS, g2, hne, f5]
    have hrep : List.replicate ts.length (D.int .i64 0) = ([] : List Nat).map (fun (v : Nat) => D.int .i64 (v : Int)) ++ List.replicate (ts.length - 0) (D.int .i64 0) := by simp
    refine andK_split (by omega) ?_
    simp -dsimp only [go_sem, gS, g2, hne, f5]
    refine newV_hp (fun b9 v9 f9 w9 => ?_)
    simp only [off_cons, off_nil] at f9
    simp -dsimp only [go_sem, gS, hne, f5, f9]
    refine svc_loop (X := Nat × List Nat × NS) (fun y => [(0, .ref r 0), (1, .d (.int .i64 x)), (5, .ref b5 0), (9, .own b9 v9), (57, .d (.slice (ts.map Tm.d))), (58, .d (.int .i64 ts.length)), (59, .d (.int .i64 y.1))])
     (fun y G => G = hp H [(r, nvar y.2.2 bm), (bm, nmap y.2.2), (b5, .var [.d (.int .i64 k), .d (.str nm), .d (.int .i64 i), .d (.slice (ts.map Tm.d))]), (b9, .arr 3 1 v9 (y.2.1.map (fun (v : Nat) => D.int .i64 (v : Int)) ++ List.replicate (ts.length - y.1) (D.int .i64 0)))] ∧ y.2.1.length = y.1 ∧ y.1 ≤ ts.length ∧ (y.2.1 ++ (nargs (ts.drop y.1) y.2.2).1, (nargs (ts.drop y.1) y.2.2).2) = nargs ts s ∧ y.2.2.next ≤ s.next + y.1)
     (fun y => ts.length - y.1) (0, [], s) _ ⟨rfl, rfl, by simp, by simp, by simp⟩ (by simp -dsimp only [go_sem, gS]) (leH_hp (by simp only [hpS, eq_self, implies_true, hne, f5, f9, List.map_nil, List.nil_append, Nat.sub_zero]) (by simp only [hpS, eq_self, implies_true, hne, f5, f9, List.map_nil, List.nil_append, Nat.sub_zero])) ?_
    rintro ⟨j, vs, s1⟩ G ⟨hG, hvl, hj, hrun, hnx⟩
    simp only at hG hvl hj hrun hnx
    subst hG
    have hnl := Tm.nodess_length ts
    simp -dsimp only [go_sem, gS]
    refine gif_split (fun q1 => ?_) (fun q1 => ?_)
    ·have q1' : j < ts.length := by have := of_decide_eq_true q1; omega
     obtain ⟨⟨tk, tn, ti, ta⟩, hx⟩ := list_at q1'
     have hwj := wrapN (k := j) (by omega)
     rw [drop_at hx] at hrun
     simp only [nargs] at hrun
     have hat : ∀ l, hp H l r = some (nvar s1 bm) → hp H l bm = some (nmap s1) → NAt (hp H l) r bm s1 := fun l a b => ⟨a, b, hne, by omega⟩
     obtain ⟨d, hd⟩ : ∃ d, ts.length - j = d + 1 := ⟨ts.length - j - 1, by omega⟩
     rw [hd]
     have hd1 : ts.length - (j + 1) = d := by omega
     have hset : ∀ m : Nat, (vs.map (fun (v : Nat) => D.int .i64 (v : Int)) ++ List.replicate (d + 1) (D.int .i64 0)).set j (.int .i64 (m : Int)) = (vs ++ [m]).map (fun (v : Nat) => D.int .i64 (v : Int)) ++ List.replicate d (D.int .i64 0) := fun m => by rw [← hvl]; exact set_nums vs d m
     have hget : (vs.map (fun (v : Nat) => D.int .i64 (v : Int)) ++ List.replicate (d + 1) (D.int .i64 0))[j]? = some (D.int .i64 0) := by
      rw [List.getElem?_append_right (by simp [hvl]), List.length_map, hvl, Nat.sub_self]; rfl
     simp -dsimp only [go_sem, gS, q1, hx, Tm.d, Tm.cs]
     refine newK_hp (fun b11 f11 => ?_)
     simp only [off_cons, off_nil] at f11
     simp -dsimp only [go_sem, gS, hne, f5, f9, f11]
     refine gif_split (fun q2 => ?_) (fun q2 => ?_)
     ·have e3 : tk = 1 := of_decide_eq_true q2
      simp only [if_pos e3] at hrun
      simp -dsimp only [go_sem, gS, q2, hne, f5, f9, f11]
      refine number_ok _ r bm s1 (hat _ (by simp only [hpS, eq_self, implies_true, hne, f5, f9, f11]) (by simp only [hpS, eq_self, implies_true, hne, f5, f9, f11])) tn _ ?_
      simp -dsimp only [go_sem, gS, hne, f5, f9, f11]
      refine andK_split (by simp only [List.length_append, List.length_map, List.length_replicate]; omega) ?_
      simp -dsimp only [go_sem, gS, hne, f5, f9, f11, hwj, hget, hset]
      have hnn := nnumber_next tn s1
      refine roundQ_next (j + 1, vs ++ [(nnumber tn s1).1], (nnumber tn s1).2) _ ⟨rfl, by simp [hvl], q1', by rw [← hrun]; simp, by simp only; omega⟩ (by simp only; omega) (by simp -dsimp only [go_sem, gS]) (leH_hp (by simp only [hpS, eq_self, implies_true, hne, f5, f9, f11, hd1]) (by simp only [hpS, eq_self, implies_true, hne, f5, f9, f11, hd1]))
     ·have e3 : tk ≠ 1 := of_decide_eq_false q2
      simp only [if_neg e3] at hrun
      simp -dsimp only [go_sem, gS, q2, hne, f5, f9, f11]
      refine fresh_ok _ r s1.next (.mp bm) (by simp only [hpS, eq_self, implies_true, hne, f5, f9, f11]) (by omega) _ ?_
      simp -dsimp only [go_sem, gS, hne, f5, f9, f11]
      refine andK_split (by simp only [List.length_append, List.length_map, List.length_replicate]; omega) ?_
      simp -dsimp only [go_sem, gS, hne, f5, f9, f11, hwj, hget, hset]
      refine roundQ_next (j + 1, vs ++ [(nfresh s1).1], (nfresh s1).2) _ ⟨rfl, by simp [hvl], q1', by rw [← hrun]; simp, by simp only [nfresh]; omega⟩ (by simp only; omega) (by simp -dsimp only [go_sem, gS]) (leH_hp (by simp only [hpS, eq_self, implies_true, hne, f5, f9, f11, hd1, nfresh]) (by simp only [hpS, eq_self, implies_true, hne, f5, f9, f11, hd1, nfresh]))
    ·have q1' : j = ts.length := by have := of_decide_eq_false q1; omega
     subst q1'
     rw [drop_end (Nat.le_refl _)] at hrun
     simp only [nargs, List.append_nil, Nat.sub_self] at hrun
     rw [← hrun] at hK
     simp only at hK
     simp -dsimp only [go_sem, gS, q1, hne, f5, f9, Nat.sub_self, List.replicate_zero, List.append_nil]
     have hTd : (Tm.mk k nm i ts).d = .agg [.int .i64 k, .str nm, .int .i64 i, .slice (ts.map Tm.d)] := by simp [Tm.d, Tm.cs, Tm.ds_map]
     rw [← hTd]
     refine keyOfF_ok _ (.mk k nm i ts) _ ?_
     simp -dsimp only [go_sem, gS, hne, f5, f9, Ky.d, Ky.cs, Tm.name, Tm.args]
     refine newV_hp (fun b85 v85 f85 w85 => ?_)
     simp only [off_cons, off_nil] at f85
     simp -dsimp only [go_sem, gS, hne, f5, f9, f85]
     have hfc := fCtor_d (x : Int) ⟨nm, (ts.length : Int)⟩ vs
     have hacc0 : AccN H [r, bm] [pcF [fCtor x ⟨nm, ts.length⟩ vs] (.own b85 v85)] (upd H b85 (.arr 39 10 v85 [(fCtor x ⟨nm, ts.length⟩ vs).d])) := (AccN.none H [r, bm]).new (by simp only [hpS, eq_self, implies_true, f85]) f85.2.2.2.2.2.2.2.2 w85
     have f9' : upd H b85 (.arr 39 10 v85 [(fCtor x ⟨nm, ts.length⟩ vs).d]) b9 = none := upd_eq_none.2 ⟨eqn_false f85.2.2.2.2.2.2.2.1, f9.2.2.2.2.2.2⟩
     refine svc_loop (X := Nat × List Fl × NS × A × Heap) (fun y => [(0, .ref r 0), (9, .own b9 v9), (12, y.2.2.2.1), (87, .d (.slice (ts.map Tm.d))), (88, .d (.int .i64 ts.length)), (89, .d (.int .i64 y.1))])
      (fun y G => G = hp y.2.2.2.2 [(r, nvar y.2.2.1 bm), (bm, nmap y.2.2.1), (b9, .frz v9 (vs.map (fun (v : Nat) => D.int .i64 (v : Int))))] ∧ AccN H [r, bm] [pcF y.2.1 y.2.2.2.1] y.2.2.2.2 ∧ y.2.2.2.2 b9 = none ∧ y.1 ≤ ts.length ∧ (y.2.1 ++ (nunifys (vs.drop y.1) (ts.drop y.1) y.2.2.1).1, (nunifys (vs.drop y.1) (ts.drop y.1) y.2.2.1).2) = (fCtor x ⟨nm, ts.length⟩ vs :: (nunifys vs ts s1).1, (nunifys vs ts s1).2) ∧ y.2.2.1.next + Tm.nodess (ts.drop y.1) ≤ s.next + Tm.nodess ts + (ts.length - y.1) ∧ y.2.1.length + Tm.nodess (ts.drop y.1) ≤ 1 + Tm.nodess ts)
      (fun y => ts.length - y.1) (0, [fCtor x ⟨nm, ts.length⟩ vs], s1, .own b85 v85, upd H b85 (.arr 39 10 v85 [(fCtor x ⟨nm, ts.length⟩ vs).d])) _ ⟨rfl, hacc0, f9', by simp, by simp, by simp only [List.drop_zero]; omega, by simp only [List.drop_zero, List.length_cons, List.length_nil]; omega⟩ (by simp -dsimp only [go_sem, gS]) (by rw [hp_base (by simp only [hpS, eq_self, implies_true, f85, hne])]; exact (leH_hp (by simp only [hpS, eq_self, implies_true, hne, f5, f9, f85, hfc, setL_cons, setL_nil]) (by simp only [hpS, eq_self, implies_true, hne, f5, f9, f85, hfc, setL_cons, setL_nil]))) ?_
     rintro ⟨j, out, s2, a, R⟩ G ⟨hG, hacc, f92, hj, hrun2, hnx2, hout⟩
     simp only at hG hacc f92 hj hrun2 hnx2 hout
     subst hG
     simp -dsimp only [go_sem, gS]
     refine gif_split (fun q3 => ?_) (fun q3 => ?_)
     ·have q3' : j < ts.length := by have := of_decide_eq_true q3; omega
      obtain ⟨⟨tk, tn, ti, ta⟩, hx⟩ := list_at q3'
      obtain ⟨v, hv⟩ := list_at (show j < vs.length by omega)
      have hwj := wrapN (k := j) (by omega)
      rw [drop_at hx, drop_at hv] at hrun2
      rw [drop_at hx] at hnx2 hout
      simp only [nunifys, Tm.nodess] at hrun2 hnx2 hout
      have hle1 := Tm.nodess_length (ts.drop (j + 1))
      rw [List.length_drop] at hle1
      simp -dsimp only [go_sem, gS, q3, hx, Tm.d, Tm.cs]
      refine newK_hp (fun b14 f14 => ?_)
      simp only [off_cons, off_nil] at f14
      simp -dsimp only [go_sem, gS, hne, f9, f92, f14]
      refine gif_split (fun q4 => ?_) (fun q4 => ?_)
      ·have e4 : tk ≠ 1 := by simpa using q4
       simp only [if_neg e4] at hrun2
       simp -dsimp only [go_sem, gS, q4, hne, f9, f92, f14, hv]
       have hsz := nunify_size v (.mk tk tn ti ta) s2
       refine ih (.mk tk tn ti ta) (List.mem_of_getElem? hx) _ r bm s2 ⟨by simp only [hpS, eq_self, implies_true, hne, f9, f92, f14], by simp only [hpS, eq_self, implies_true, hne, f9, f92, f14], hne, by omega⟩ v (by omega) _ (fun a' hrow => ?_)
       generalize hu : nunify v (.mk tk tn ti ta) s2 = u at hrun2 hsz hrow ⊢
       obtain ⟨rows, s3⟩ := u
       simp only at hrun2 hsz hrow
       simp -dsimp only [go_sem, gS, hne, f9, f92, f14]
       obtain ⟨hacc', hw', hn'⟩ := hacc.take (E := 39) (sz := 10) (by simp only [hpS, eq_self, implies_true, hne]) hrow
       rw [hw' [(r, nvar s3 bm), (bm, nmap s3), (b9, .frz v9 (vs.map (fun (v : Nat) => D.int .i64 (v : Int)))), (b14, .var [.d (.int .i64 tk), .d (.str tn), .d (.int .i64 ti), .d (.slice (Tm.ds ta))])] (fun _ h => h)]
       have f93 := hn' b9 (by simp only [hpS, eq_self, implies_true, hne, f9, f92, f14]) f92
       have f143 := hn' b14 (by simp only [hpS, eq_self, implies_true, hne, f9, f92, f14]) f14.2.2.2.2.2.2
       generalize withA R a' 39 10 (rows.map Fl.d) = R3 at hacc' f93 f143 ⊢
       have hok3 : okK [r, bm] R3 [(r, nvar s3 bm), (bm, nmap s3), (b9, .frz v9 (vs.map (fun (v : Nat) => D.int .i64 (v : Int)))), (b14, .var [.d (.int .i64 tk), .d (.str tn), .d (.int .i64 ti), .d (.slice (Tm.ds ta))])] := by simp only [hpS, eq_self, implies_true, hne, f9, f93, f143, f14]
       rw [AccN.src (pre := []) hacc' hok3]
       have hszs := szs_map (sz := 10) (f := Fl.d) (fun x => x.cs_length) rows
       simp -dsimp only [go_sem, gS, hszs]
       refine AccN.appTo (pre := [pcF rows a']) (p := pcF out a) (post := []) hacc' hok3 (by simp only [hpS, eq_self, implies_true, hne]) (by simp only [List.length_map]; omega) (fun a2 R4 hacc4 hn4 => ?_)
       have f94 := hn4 b9 (by simp only [hpS, eq_self, implies_true, hne, f9, f93, f143, f14]) f93
       have f144 := hn4 b14 (by simp only [hpS, eq_self, implies_true, hne, f9, f93, f143, f14]) f143
       have hacc5 : AccN H [r, bm] [pcF (out ++ rows) a2] R4 := by
        have := hacc4.without (pre := [])
        simp only [pcF, List.map_append]; exact this
       simp -dsimp only [go_sem, gS, hne, f9, f94, f144, f14, hwj]
       refine roundQ_next (j + 1, out ++ rows, s3, a2, R4) _ ⟨rfl, hacc5, f94, q3', by rw [← hrun2]; simp, by simp only; omega, by simp only [List.length_append]; omega⟩ (by simp only; omega) (by simp -dsimp only [go_sem, gS]) (leH_hp (by simp only [hpS, eq_self, implies_true, hne, f9, f94, f144, f14]) (by simp only [hpS, eq_self, implies_true, hne, f9, f94, f144, f14]))
      ·have e4 : tk = 1 := by simpa using q4
       have hp1 := (Tm.mk tk tn ti ta).nodes_pos
       simp only [if_pos e4] at hrun2
       simp -dsimp only [go_sem, gS, q4, hne, f9, f92, f14, hwj]
       refine roundQ_next (j + 1, out, s2, a, R) _ ⟨rfl, hacc, f92, q3', hrun2, by simp only; omega, by simp only; omega⟩ (by simp only; omega) (by simp -dsimp only [go_sem, gS]) (leH_hp (by simp only [hpS, eq_self, implies_true, hne, f9, f92, f14]) (by simp only [hpS, eq_self, implies_true, hne, f9, f92, f14]))
     ·rw [drop_end (by have := of_decide_eq_false q3; omega), drop_end (by have := of_decide_eq_false q3; omega)] at hrun2
      simp only [nunifys, List.append_nil, Prod.mk.injEq] at hrun2
      obtain ⟨r1, r2⟩ := hrun2
      simp only [← List.map_cons (f := Fl.d)] at hK
      rw [← r1, ← r2] at hK
      simp -dsimp only [go_sem, gS, q3, hne]
      exact retW_row (ps := []) hacc (by simp only [hpS, eq_self, implies_true, hne, f9, f92]) (l1 := [(r, nvar s2 bm), (bm, nmap s2)]) (by simp only [hpS, eq_self, implies_true, hne, f9, f92]) (by simp only [hpS, eq_self, implies_true, hne, f9]) (fun hr => hK _ hr)
end Go.Aug

/- Flat goals: places, wholes, unifications. -/
namespace Go.Aug
open Go.Proofs
set_option maxRecDepth 100000
set_option linter.unusedSimpArgs false
attribute [local irreducible] hid andK letA onSome onVar onArr arrOnly onInt onBool onTup idxA ldV ldD addO appTo fillL slA srcK nilQ retW gif sgd sguard svc sops sdops sagain aopO aLoad aStore aBin aUn aConv aLen aIndexAddr aIndex aIndexAddrS aIndexS aSlice aAppend aBuild aBuildSlice aMakeSlice aField aFieldOf aCallOp deepK deepL frzM putE newK newV growV ACall roundQ thenQ inBlockQ sret cnd szs nilC onMap onRow aLookup aMapUpdate aMakeMap
attribute [local go_sem] Int.natCast_zero
def nplace (t : Tm) (s : NS) : Nat × List Fl × NS := if t.kind = 1 then ((nnumber t.name s).1, [], (nnumber t.name s).2) else (s.next, nunify s.next t (nfresh s).2)
theorem nplace_size (t : Tm) (s : NS) : (nplace t s).2.1.length ≤ t.nodes ∧ s.next ≤ (nplace t s).2.2.next ∧ (nplace t s).2.2.next ≤ s.next + t.nodes := by
 unfold nplace
 have hpos := t.nodes_pos
 split
 ·have := nnumber_next t.name s; simp only [List.length_nil]; omega
 ·have := nunify_size s.next t (nfresh s).2; simp only [nfresh] at this ⊢; omega
set_option maxHeartbeats 2000000 in
theorem place_ok {eb : EbG} (t : Tm) (ht : t.small) (H : Heap) (r bm : Nat) (s : NS) (h : NAt H r bm s) (hlim : s.next + t.nodes ≤ 1099511627773) (K : A → Heap → Prop)
  (hK : ∀ a, RowA H [r, bm] ((nplace t s).2.1.map Fl.d) a → K (.tup [.d (.int .i64 (nplace t s).1), a]) (withA (nset H r bm (nplace t s).2.2) a 39 10 ((nplace t s).2.1.map Fl.d))) :
  ACall Tryd.prog (seatV eb) 93 [.ref r 0, .d t.d] H K := by
 have hne := h.ne
 have hfew := h.few
 simp only [nset_is hne.2] at hK
 have hpos := t.nodes_pos
 obtain ⟨k, n, i, xs⟩ := t
 refine ACall.nin h ?_
 refine ACall.by mixed fn93 (by simp) ?_
 conv in s93 => cbv
 refine svc_start ?_
 simp -dsimp only [go_sem, gS, Tm.d, Tm.cs, Tm.ds_map]
 refine newK_hp (fun b5 f5 => ?_)
 simp only [off_cons, off_nil] at f5
 simp -dsimp only [go_sem, gS, hne, f5]
 refine gif_split (fun g1 => ?_) (fun g1 => ?_)
 ·have e1 : k = 1 := of_decide_eq_true g1
  have hpl : nplace (.mk k n i xs) s = ((nnumber n s).1, [], (nnumber n s).2) := if_pos e1
  simp only [hpl, List.map_nil] at hK
  simp -dsimp only [go_sem, gS, g1, hne, f5]
  refine number_ok _ r bm s ⟨by simp only [hpS, eq_self, implies_true, hne, f5], by simp only [hpS, eq_self, implies_true, hne, f5], hne, hfew⟩ n _ ?_
  simp -dsimp only [go_sem, gS, hne, f5]
  exact retW_drop (G := hp H [(r, nvar (nnumber n s).2 bm), (bm, nmap (nnumber n s).2)]) (leH_hp (by simp only [hpS, eq_self, implies_true, hne, f5]) (by simp only [hpS, eq_self, implies_true, hne, f5])) (retW_is (hK .nils (.inl ⟨rfl, rfl⟩)))
 ·have e1 : k ≠ 1 := of_decide_eq_false g1
  have hTd : (Tm.mk k n i xs).d = .agg [.int .i64 k, .str n, .int .i64 i, .slice (xs.map Tm.d)] := by simp [Tm.d, Tm.cs, Tm.ds_map]
  have hpl : nplace (.mk k n i xs) s = (s.next, nunify s.next (.mk k n i xs) (nfresh s).2) := if_neg e1
  simp only [hpl] at hK
  simp -dsimp only [go_sem, gS, g1, hne, f5]
  refine fresh_ok _ r s.next (.mp bm) (by simp only [hpS, eq_self, implies_true, hne, f5]) hfew _ ?_
  simp -dsimp only [go_sem, gS, hne, f5]
  rw [← hTd]
  refine unify_ok _ (.mk k n i xs) (Nat.le_refl _) ht _ r bm (nfresh s).2 ⟨by simp only [hpS, eq_self, implies_true, hne, f5, nfresh], by simp only [hpS, eq_self, implies_true, hne, f5, nfresh], hne, by simp only [nfresh]; omega⟩ s.next (by simp only [nfresh]; omega) _ (fun a' hrow => ?_)
  generalize hu : nunify s.next (Tm.mk k n i xs) (nfresh s).2 = u at hK hrow ⊢
  obtain ⟨rows, s3⟩ := u
  simp only at hK hrow
  simp -dsimp only [go_sem, gS, hne, f5]
  obtain ⟨hacc', hw', hn'⟩ := (AccN.none H [r, bm]).take (E := 39) (sz := 10) (l := [(r, nvar (nfresh s).2 bm), (bm, nmap (nfresh s).2), (b5, .var [.d (.int .i64 k), .d (.str n), .d (.int .i64 i), .d (.slice (xs.map Tm.d))])]) (by simp only [hpS, eq_self, implies_true, hne]) hrow
  rw [hw' [(r, nvar s3 bm), (bm, nmap s3), (b5, .var [.d (.int .i64 k), .d (.str n), .d (.int .i64 i), .d (.slice (xs.map Tm.d))])] (fun _ h => h)]
  have f5' := hn' b5 (by simp only [hpS, eq_self, implies_true, hne, f5]) f5.2.2.2.2
  exact retW_rowX hacc' (by simp only [hpS, eq_self, implies_true, hne, f5, f5']) (l1 := [(r, nvar s3 bm), (bm, nmap s3)]) (by simp only [hpS, eq_self, implies_true, hne, f5]) (by simp only [hpS, eq_self, implies_true, hne, f5]) (fun hr => hK _ hr)
def fTrue : Fl := .mk 1 0 0 0 ky0 ky0 [] []
def fRow (k : Int) (x : Int) (gs : List Fl) : Fl := .mk k x 0 0 ky0 ky0 [] gs
def nwhole : List Fl → Fl
 | [] => fTrue
 | [g] => g
 | gs => fRow 7 0 gs
theorem fRow_d (k x : Int) (gs : List Fl) : (fRow k x gs).d = .agg [.int .i64 k, .int .i64 x, .int .i64 0, .int .i64 0, .str ⟨#[]⟩, .int .i64 0, .str ⟨#[]⟩, .int .i64 0, .slice [], .slice (gs.map Fl.d)] := by simp [fRow, Fl.d, Fl.cs, Fl.ds_map, ky0]
theorem fTrue_d : fTrue.d = .agg [.int .i64 1, .int .i64 0, .int .i64 0, .int .i64 0, .str ⟨#[]⟩, .int .i64 0, .str ⟨#[]⟩, .int .i64 0, .slice [], .slice []] := by simp [fTrue, Fl.d, Fl.cs, Fl.ds, ky0]
theorem whole_ok {eb : EbG} (gs : List Fl) (hl : gs.length ≤ 1099511627776) (H : Heap) (K : A → Heap → Prop) (hK : K (.d (nwhole gs).d) H) :
  ACall Tryd.prog (seatV eb) 47 [.d (.slice (gs.map Fl.d))] H K := by
 refine ACall.hp_start ?_
 refine ACall.by mixed fn47 (by simp) ?_
 conv in s47 => cbv
 refine svc_start ?_
 simp -dsimp only [go_sem, gS]
 refine newK_hp (fun b2 f2 => ?_)
 simp only [off_cons, off_nil] at f2
 simp -dsimp only [go_sem, gS, f2]
 refine gif_split (fun g1 => ?_) (fun g1 => ?_)
 ·have e : gs = [] := by have := of_decide_eq_true g1; exact List.length_eq_zero_iff.1 (by omega)
  subst e
  rw [show nwhole [] = fTrue from rfl, fTrue_d] at hK
  simp -dsimp only [go_sem, gS, g1, f2]
  refine retW_deep ?_
  simp -dsimp only [go_sem, gS]
  exact retW_drop (G := H) (leH_hp0 (by simp only [hpS, eq_self, implies_true, f2])) (retW_is hK)
 ·have e0 : gs.length ≠ 0 := by have := of_decide_eq_false g1; omega
  simp -dsimp only [go_sem, gS, g1, f2]
  refine gif_split (fun g2 => ?_) (fun g2 => ?_)
  ·obtain ⟨g, rfl⟩ : ∃ g, gs = [g] := List.length_eq_one_iff.1 (by have := of_decide_eq_true g2; omega)
   obtain ⟨k, x, y, i, c, p, xs, ys⟩ := g
   simp only [nwhole, Fl.d, Fl.cs] at hK
   simp -dsimp only [go_sem, gS, g2, f2, List.map_cons, List.map_nil, List.getElem?_cons_zero, Int.toNat_zero, Fl.d, Fl.cs]
   exact retW_drop (G := H) (leH_hp0 (by simp only [hpS, eq_self, implies_true, f2])) (retW_is hK)
  ·have e1 : gs.length ≠ 1 := by have := of_decide_eq_false g2; omega
   have ew : nwhole gs = fRow 7 0 gs := by
    rcases gs with _ | ⟨a, _ | ⟨b, gs⟩⟩
    ·simp at e0
    ·simp at e1
    ·rfl
   rw [ew, fRow_d] at hK
   simp -dsimp only [go_sem, gS, g2, f2]
   refine retW_deep ?_
   simp -dsimp only [go_sem, gS]
   exact retW_drop (G := H) (leH_hp0 (by simp only [hpS, eq_self, implies_true, f2])) (retW_is hK)
def nequal (a b : Tm) (s : NS) : List Fl × NS :=
 if a.kind = 1 ∧ b.kind = 1 then
  (if a.name = kUnder ∨ b.name = kUnder then ([], s) else ([fSame (nnumber a.name s).1 (nnumber b.name (nnumber a.name s).2).1], (nnumber b.name (nnumber a.name s).2).2))
 else if a.kind = 1 then nunify (nnumber a.name s).1 b (nnumber a.name s).2
 else if b.kind = 1 then nunify (nnumber b.name s).1 a (nnumber b.name s).2
 else ((nunify s.next a (nfresh s).2).1 ++ (nunify s.next b (nunify s.next a (nfresh s).2).2).1, (nunify s.next b (nunify s.next a (nfresh s).2).2).2)
theorem nequal_size (a b : Tm) (s : NS) : (nequal a b s).1.length ≤ a.nodes + b.nodes ∧ s.next ≤ (nequal a b s).2.next ∧ (nequal a b s).2.next ≤ s.next + a.nodes + b.nodes := by
 unfold nequal
 have ha := a.nodes_pos
 have hb := b.nodes_pos
 split
 ·split
  ·simp; omega
  ·have h1 := nnumber_next a.name s; have h2 := nnumber_next b.name (nnumber a.name s).2; simp only [List.length_cons, List.length_nil]; omega
 ·split
  ·have h1 := nnumber_next a.name s; have h2 := nunify_size (nnumber a.name s).1 b (nnumber a.name s).2; omega
  ·split
   ·have h1 := nnumber_next b.name s; have h2 := nunify_size (nnumber b.name s).1 a (nnumber b.name s).2; omega
   ·have h1 := nunify_size s.next a (nfresh s).2
    have h2 := nunify_size s.next b (nunify s.next a (nfresh s).2).2
    simp only [nfresh, List.length_append] at h1 h2 ⊢; omega
set_option maxHeartbeats 4000000 in
theorem equal_ok {eb : EbG} (t u : Tm) (ht : t.small) (hsu : u.small) (H : Heap) (r bm : Nat) (s : NS) (h : NAt H r bm s) (hlim : s.next + t.nodes + u.nodes ≤ 1099511627773) (K : A → Heap → Prop)
  (hK : ∀ a, RowA H [r, bm] ((nequal t u s).1.map Fl.d) a → K a (withA (nset H r bm (nequal t u s).2) a 39 10 ((nequal t u s).1.map Fl.d))) :
  ACall Tryd.prog (seatV eb) 92 [.ref r 0, .d t.d, .d u.d] H K := by
 have hne := h.ne
 have hfew := h.few
 simp only [nset_is hne.2] at hK
 have hpt := t.nodes_pos
 have hpu := u.nodes_pos
 obtain ⟨k, n, i, xs⟩ := t
 obtain ⟨k2, n2, i2, xs2⟩ := u
 have hTd : (Tm.mk k n i xs).d = .agg [.int .i64 k, .str n, .int .i64 i, .slice (xs.map Tm.d)] := by simp [Tm.d, Tm.cs, Tm.ds_map]
 have hUd : (Tm.mk k2 n2 i2 xs2).d = .agg [.int .i64 k2, .str n2, .int .i64 i2, .slice (xs2.map Tm.d)] := by simp [Tm.d, Tm.cs, Tm.ds_map]
 refine ACall.nin h ?_
 refine ACall.by mixed fn92 (by simp) ?_
 conv in s92 => cbv
 refine svc_start ?_
 simp -dsimp only [go_sem, gS, Tm.d, Tm.cs, Tm.ds_map]
 refine newK_hp (fun b4 f4 => ?_)
 simp only [off_cons, off_nil] at f4
 simp -dsimp only [go_sem, gS, hne, f4]
 refine newK_hp (fun b5 f5 => ?_)
 simp only [off_cons, off_nil] at f5
 simp -dsimp only [go_sem, gS, hne, f4, f5]
 by_cases e1 : k = 1 <;> by_cases e2 : k2 = 1
 ·have q1 : decide (k = 1) = true := decide_eq_true e1
  have q2 : decide (k2 = 1) = true := decide_eq_true e2
  have hq : nequal (.mk k n i xs) (.mk k2 n2 i2 xs2) s = if n = kUnder ∨ n2 = kUnder then ([], s) else ([fSame (nnumber n s).1 (nnumber n2 (nnumber n s).2).1], (nnumber n2 (nnumber n s).2).2) := if_pos ⟨e1, e2⟩
  rw [hq] at hK
  simp -dsimp only [go_sem, gS, q1, q2, hne, f4, f5]
  refine gif_split (fun g1 => ?_) (fun g1 => ?_)
  ·have e3 : n = kUnder := of_decide_eq_true g1
   simp only [if_pos (Or.inl e3 : n = kUnder ∨ n2 = kUnder), List.map_nil] at hK
   simp -dsimp only [go_sem, gS, g1, hne, f4, f5]
   exact retW_drop (G := hp H [(r, nvar s bm), (bm, nmap s)]) (leH_hp (by simp only [hpS, eq_self, implies_true, hne, f4, f5]) (by simp only [hpS, eq_self, implies_true, hne, f4, f5])) (retW_is (hK .nils (.inl ⟨rfl, rfl⟩)))
  ·have e3 : ¬ n = kUnder := of_decide_eq_false g1
   simp -dsimp only [go_sem, gS, g1, hne, f4, f5]
   refine gif_split (fun g2 => ?_) (fun g2 => ?_)
   ·have e4 : n2 = kUnder := of_decide_eq_true g2
    simp only [if_pos (Or.inr e4 : n = kUnder ∨ n2 = kUnder), List.map_nil] at hK
    simp -dsimp only [go_sem, gS, g2, hne, f4, f5]
    exact retW_drop (G := hp H [(r, nvar s bm), (bm, nmap s)]) (leH_hp (by simp only [hpS, eq_self, implies_true, hne, f4, f5]) (by simp only [hpS, eq_self, implies_true, hne, f4, f5])) (retW_is (hK .nils (.inl ⟨rfl, rfl⟩)))
   ·have e4 : ¬ n2 = kUnder := of_decide_eq_false g2
    simp only [if_neg (fun h => h.elim e3 e4 : ¬ (n = kUnder ∨ n2 = kUnder)), List.map_nil, List.map_cons] at hK
    have hn1 := nnumber_next n s
    simp -dsimp only [go_sem, gS, g2, hne, f4, f5]
    refine number_ok _ r bm s ⟨by simp only [hpS, eq_self, implies_true, hne, f4, f5], by simp only [hpS, eq_self, implies_true, hne, f4, f5], hne, by omega⟩ n _ ?_
    simp -dsimp only [go_sem, gS, hne, f4, f5]
    refine number_ok _ r bm (nnumber n s).2 ⟨by simp only [hpS, eq_self, implies_true, hne, f4, f5], by simp only [hpS, eq_self, implies_true, hne, f4, f5], hne, by omega⟩ n2 _ ?_
    simp -dsimp only [go_sem, gS, hne, f4, f5]
    refine newV_hp (fun b40 v40 f40 w40 => ?_)
    simp only [off_cons, off_nil] at f40
    simp -dsimp only [go_sem, gS, hne, f4, f5, f40]
    refine retW_drop (G := hp H [(r, nvar (nnumber n2 (nnumber n s).2).2 bm), (bm, nmap (nnumber n2 (nnumber n s).2).2), (b40, .arr 39 10 v40 [(fSame (nnumber n s).1 (nnumber n2 (nnumber n s).2).1).d])]) (leH_hp (by simp only [hpS, eq_self, implies_true, hne, f4, f5, f40, fSame_d]) (by simp only [hpS, eq_self, implies_true, hne, f4, f5, f40, fSame_d])) (retW_is ?_)
    exact row_new hK (by simp only [hpS, eq_self, implies_true, hne]) (show off H [(r, nvar (nnumber n2 (nnumber n s).2).2 bm), (bm, nmap (nnumber n2 (nnumber n s).2).2)] b40 by simp only [hpS, eq_self, implies_true, f40]) w40
 ·have q1 : decide (k = 1) = true := decide_eq_true e1
  have q2 : decide (k2 = 1) = false := decide_eq_false e2
  have hq : nequal (.mk k n i xs) (.mk k2 n2 i2 xs2) s = nunify (nnumber n s).1 (.mk k2 n2 i2 xs2) (nnumber n s).2 := (if_neg (fun h => e2 h.2)).trans (if_pos e1)
  rw [hq] at hK
  simp -dsimp only [go_sem, gS, q1, q2, hne, f4, f5]
  have hn1 := nnumber_next n s
  refine number_ok _ r bm s ⟨by simp only [hpS, eq_self, implies_true, hne, f4, f5], by simp only [hpS, eq_self, implies_true, hne, f4, f5], hne, by omega⟩ n _ ?_
  simp -dsimp only [go_sem, gS, hne, f4, f5]
  rw [← hUd]
  refine unify_ok _ (.mk k2 n2 i2 xs2) (Nat.le_refl _) hsu _ r bm (nnumber n s).2 ⟨by simp only [hpS, eq_self, implies_true, hne, f4, f5], by simp only [hpS, eq_self, implies_true, hne, f4, f5], hne, by omega⟩ (nnumber n s).1 (by omega) _ (fun a' hrow => ?_)
  generalize hu : nunify (nnumber n s).1 (.mk k2 n2 i2 xs2) (nnumber n s).2 = u at hK hrow ⊢
  obtain ⟨rows, s3⟩ := u
  simp only at hK hrow
  simp -dsimp only [go_sem, gS, hne, f4, f5]
  obtain ⟨hacc', hw', hn'⟩ := (AccN.none H [r, bm]).take (E := 39) (sz := 10) (l := [(r, nvar (nnumber n s).2 bm), (bm, nmap (nnumber n s).2), (b4, .var [.d (.int .i64 k), .d (.str n), .d (.int .i64 i), .d (.slice (xs.map Tm.d))]), (b5, .var [.d (.int .i64 k2), .d (.str n2), .d (.int .i64 i2), .d (.slice (xs2.map Tm.d))])]) (by simp only [hpS, eq_self, implies_true, hne]) hrow
  rw [hw' [(r, nvar s3 bm), (bm, nmap s3), (b4, .var [.d (.int .i64 k), .d (.str n), .d (.int .i64 i), .d (.slice (xs.map Tm.d))]), (b5, .var [.d (.int .i64 k2), .d (.str n2), .d (.int .i64 i2), .d (.slice (xs2.map Tm.d))])] (fun _ h => h)]
  have f4' := hn' b4 (by simp only [hpS, eq_self, implies_true, hne, f4, f5]) f4.2.2.2.2
  have f5' := hn' b5 (by simp only [hpS, eq_self, implies_true, hne, f4, f5]) f5.2.2.2.2.2.2
  exact retW_rowX hacc' (by simp only [hpS, eq_self, implies_true, hne, f4, f5, f4', f5']) (l1 := [(r, nvar s3 bm), (bm, nmap s3)]) (by simp only [hpS, eq_self, implies_true, hne, f4, f5]) (by simp only [hpS, eq_self, implies_true, hne, f4, f5]) (fun hr => hK _ hr)
 ·have q1 : decide (k = 1) = false := decide_eq_false e1
  have q2 : decide (k2 = 1) = true := decide_eq_true e2
  have hq : nequal (.mk k n i xs) (.mk k2 n2 i2 xs2) s = nunify (nnumber n2 s).1 (.mk k n i xs) (nnumber n2 s).2 := (if_neg (fun h => e1 h.1)).trans ((if_neg e1).trans (if_pos e2))
  rw [hq] at hK
  simp -dsimp only [go_sem, gS, q1, q2, hne, f4, f5]
  have hn1 := nnumber_next n2 s
  refine number_ok _ r bm s ⟨by simp only [hpS, eq_self, implies_true, hne, f4, f5], by simp only [hpS, eq_self, implies_true, hne, f4, f5], hne, by omega⟩ n2 _ ?_
  simp -dsimp only [go_sem, gS, hne, f4, f5]
  rw [← hTd]
  refine unify_ok _ (.mk k n i xs) (Nat.le_refl _) ht _ r bm (nnumber n2 s).2 ⟨by simp only [hpS, eq_self, implies_true, hne, f4, f5], by simp only [hpS, eq_self, implies_true, hne, f4, f5], hne, by omega⟩ (nnumber n2 s).1 (by omega) _ (fun a' hrow => ?_)
  generalize hu : nunify (nnumber n2 s).1 (.mk k n i xs) (nnumber n2 s).2 = u at hK hrow ⊢
  obtain ⟨rows, s3⟩ := u
  simp only at hK hrow
  simp -dsimp only [go_sem, gS, hne, f4, f5]
  obtain ⟨hacc', hw', hn'⟩ := (AccN.none H [r, bm]).take (E := 39) (sz := 10) (l := [(r, nvar (nnumber n2 s).2 bm), (bm, nmap (nnumber n2 s).2), (b4, .var [.d (.int .i64 k), .d (.str n), .d (.int .i64 i), .d (.slice (xs.map Tm.d))]), (b5, .var [.d (.int .i64 k2), .d (.str n2), .d (.int .i64 i2), .d (.slice (xs2.map Tm.d))])]) (by simp only [hpS, eq_self, implies_true, hne]) hrow
  rw [hw' [(r, nvar s3 bm), (bm, nmap s3), (b4, .var [.d (.int .i64 k), .d (.str n), .d (.int .i64 i), .d (.slice (xs.map Tm.d))]), (b5, .var [.d (.int .i64 k2), .d (.str n2), .d (.int .i64 i2), .d (.slice (xs2.map Tm.d))])] (fun _ h => h)]
  have f4' := hn' b4 (by simp only [hpS, eq_self, implies_true, hne, f4, f5]) f4.2.2.2.2
  have f5' := hn' b5 (by simp only [hpS, eq_self, implies_true, hne, f4, f5]) f5.2.2.2.2.2.2
  exact retW_rowX hacc' (by simp only [hpS, eq_self, implies_true, hne, f4, f5, f4', f5']) (l1 := [(r, nvar s3 bm), (bm, nmap s3)]) (by simp only [hpS, eq_self, implies_true, hne, f4, f5]) (by simp only [hpS, eq_self, implies_true, hne, f4, f5]) (fun hr => hK _ hr)
 ·have q1 : decide (k = 1) = false := decide_eq_false e1
  have q2 : decide (k2 = 1) = false := decide_eq_false e2
  have hq : nequal (.mk k n i xs) (.mk k2 n2 i2 xs2) s = ((nunify s.next (.mk k n i xs) (nfresh s).2).1 ++ (nunify s.next (.mk k2 n2 i2 xs2) (nunify s.next (.mk k n i xs) (nfresh s).2).2).1, (nunify s.next (.mk k2 n2 i2 xs2) (nunify s.next (.mk k n i xs) (nfresh s).2).2).2) := (if_neg (fun h => e1 h.1)).trans ((if_neg e1).trans (if_neg e2))
  rw [hq] at hK
  simp -dsimp only [go_sem, gS, q1, q2, hne, f4, f5]
  refine fresh_ok _ r s.next (.mp bm) (by simp only [hpS, eq_self, implies_true, hne, f4, f5]) hfew _ ?_
  simp -dsimp only [go_sem, gS, hne, f4, f5]
  rw [← hTd]
  refine unify_ok _ (.mk k n i xs) (Nat.le_refl _) ht _ r bm (nfresh s).2 ⟨by simp only [hpS, eq_self, implies_true, hne, f4, f5, nfresh], by simp only [hpS, eq_self, implies_true, hne, f4, f5, nfresh], hne, by simp only [nfresh]; omega⟩ s.next (by simp only [nfresh]; omega) _ (fun a' hrow => ?_)
  have hz1 := nunify_size s.next (.mk k n i xs) (nfresh s).2
  generalize hu : nunify s.next (.mk k n i xs) (nfresh s).2 = u at hK hrow hz1 ⊢
  obtain ⟨rows, s3⟩ := u
  simp only [nfresh] at hK hrow hz1
  simp -dsimp only [go_sem, gS, hne, f4, f5]
  obtain ⟨hacc', hw', hn'⟩ := (AccN.none H [r, bm]).take (E := 39) (sz := 10) (l := [(r, nvar (nfresh s).2 bm), (bm, nmap (nfresh s).2), (b4, .var [.d (.int .i64 k), .d (.str n), .d (.int .i64 i), .d (.slice (xs.map Tm.d))]), (b5, .var [.d (.int .i64 k2), .d (.str n2), .d (.int .i64 i2), .d (.slice (xs2.map Tm.d))])]) (by simp only [hpS, eq_self, implies_true, hne]) hrow
  rw [hw' [(r, nvar s3 bm), (bm, nmap s3), (b4, .var [.d (.int .i64 k), .d (.str n), .d (.int .i64 i), .d (.slice (xs.map Tm.d))]), (b5, .var [.d (.int .i64 k2), .d (.str n2), .d (.int .i64 i2), .d (.slice (xs2.map Tm.d))])] (fun _ h => h)]
  have f4' := hn' b4 (by simp only [hpS, eq_self, implies_true, hne, f4, f5]) f4.2.2.2.2
  have f5' := hn' b5 (by simp only [hpS, eq_self, implies_true, hne, f4, f5]) f5.2.2.2.2.2.2
  generalize withA H a' 39 10 (rows.map Fl.d) = R3 at hacc' f4' f5' ⊢
  simp -dsimp only [go_sem, gS, hne, f4, f5, f4', f5']
  rw [← hUd]
  refine unify_ok _ (.mk k2 n2 i2 xs2) (Nat.le_refl _) hsu _ r bm s3 ⟨by simp only [hpS, eq_self, implies_true, hne, f4, f5, f4', f5'], by simp only [hpS, eq_self, implies_true, hne, f4, f5, f4', f5'], hne, by omega⟩ s.next (by omega) _ (fun a2 hrow2 => ?_)
  have hz2 := nunify_size s.next (.mk k2 n2 i2 xs2) s3
  generalize hu2 : nunify s.next (.mk k2 n2 i2 xs2) s3 = u2 at hK hrow2 hz2 ⊢
  obtain ⟨rows2, s4⟩ := u2
  simp only at hK hrow2 hz2
  simp -dsimp only [go_sem, gS, hne, f4, f5, f4', f5']
  obtain ⟨hacc2, hw2, hn2⟩ := hacc'.take (E := 39) (sz := 10) (l := [(r, nvar s3 bm), (bm, nmap s3), (b4, .var [.d (.int .i64 k), .d (.str n), .d (.int .i64 i), .d (.slice (xs.map Tm.d))]), (b5, .var [.d (.int .i64 k2), .d (.str n2), .d (.int .i64 i2), .d (.slice (xs2.map Tm.d))])]) (by simp only [hpS, eq_self, implies_true, hne]) hrow2
  rw [hw2 [(r, nvar s4 bm), (bm, nmap s4), (b4, .var [.d (.int .i64 k), .d (.str n), .d (.int .i64 i), .d (.slice (xs.map Tm.d))]), (b5, .var [.d (.int .i64 k2), .d (.str n2), .d (.int .i64 i2), .d (.slice (xs2.map Tm.d))])] (fun _ h => h)]
  have f42 := hn2 b4 (by simp only [hpS, eq_self, implies_true, hne, f4, f5]) f4'
  have f52 := hn2 b5 (by simp only [hpS, eq_self, implies_true, hne, f4, f5]) f5'
  generalize withA R3 a2 39 10 (rows2.map Fl.d) = R4 at hacc2 f42 f52 ⊢
  have hok4 : okK [r, bm] R4 [(r, nvar s4 bm), (bm, nmap s4), (b4, .var [.d (.int .i64 k), .d (.str n), .d (.int .i64 i), .d (.slice (xs.map Tm.d))]), (b5, .var [.d (.int .i64 k2), .d (.str n2), .d (.int .i64 i2), .d (.slice (xs2.map Tm.d))])] := by simp only [hpS, eq_self, implies_true, hne, f4, f5, f42, f52]
  rw [AccN.src (pre := []) hacc2 hok4]
  have hszs := szs_map (sz := 10) (f := Fl.d) (fun x => x.cs_length) rows2
  simp -dsimp only [go_sem, gS, hszs]
  refine AccN.appTo (pre := [pcF rows2 a2]) (p := pcF rows a') (post := []) hacc2 hok4 (by simp only [hpS, eq_self, implies_true, hne]) (by simp only [List.length_map, nfresh] at hz1 hz2 ⊢; omega) (fun a5 R5 hacc5 hn5 => ?_)
  have f45 := hn5 b4 (by simp only [hpS, eq_self, implies_true, hne, f4, f5]) f42
  have f55 := hn5 b5 (by simp only [hpS, eq_self, implies_true, hne, f4, f5]) f52
  have hacc6 : AccN H [r, bm] [pcF (rows ++ rows2) a5] R5 := by
   have := hacc5.without (pre := [])
   simp only [pcF, List.map_append]; exact this
  simp -dsimp only [go_sem, gS, hne, f4, f5, f45, f55]
  exact retW_rowX (ps := []) hacc6 (by simp only [hpS, eq_self, implies_true, hne, f4, f5, f45, f55]) (l1 := [(r, nvar s4 bm), (bm, nmap s4)]) (by simp only [hpS, eq_self, implies_true, hne, f4, f5, f45, f55]) (by simp only [hpS, eq_self, implies_true, hne, f4, f5]) (fun hr => hK _ hr)
end Go.Aug

/- Flat goals: what a goal comes to. -/
namespace Go.Aug
open Go.Proofs
set_option maxRecDepth 100000
set_option linter.unusedSimpArgs false
attribute [local irreducible] hid andK letA onSome onVar onArr arrOnly onInt onBool onTup idxA ldV ldD addO appTo fillL slA srcK nilQ retW gif sgd sguard svc sops sdops sagain aopO aLoad aStore aBin aUn aConv aLen aIndexAddr aIndex aIndexAddrS aIndexS aSlice aAppend aBuild aBuildSlice aMakeSlice aField aFieldOf aCallOp deepK deepL frzM putE newK newV growV ACall roundQ thenQ inBlockQ sret cnd szs nilC onMap onRow aLookup aMapUpdate aMakeMap
attribute [local go_sem] Int.natCast_zero
mutual
def Gl.nodes : Gl → Nat
 | .mk _ a b _ xs gs => 1 + a.nodes + b.nodes + Tm.nodess xs + Gl.nodess gs
def Gl.nodess : List Gl → Nat
 | [] => 0
 | g :: gs => g.nodes + Gl.nodess gs
end
def nplaces : List Tm → NS → List Nat × List Fl × NS
 | [], s => ([], [], s)
 | t :: ts, s => ((nplace t s).1 :: (nplaces ts (nplace t s).2.2).1, (nplace t s).2.1 ++ (nplaces ts (nplace t s).2.2).2.1, (nplaces ts (nplace t s).2.2).2.2)
theorem nplaces_len : ∀ (ts : List Tm) (s : NS), (nplaces ts s).1.length = ts.length
 | [], _ => rfl
 | t :: ts, s => by simp only [nplaces, List.length_cons, nplaces_len ts]
theorem nplaces_size : ∀ (ts : List Tm) (s : NS), (nplaces ts s).2.1.length ≤ Tm.nodess ts ∧ s.next ≤ (nplaces ts s).2.2.next ∧ (nplaces ts s).2.2.next ≤ s.next + Tm.nodess ts
 | [], s => by simp [nplaces, Tm.nodess]
 | t :: ts, s => by
  have h1 := nplace_size t s
  have h2 := nplaces_size ts (nplace t s).2.2
  simp only [nplaces, Tm.nodess, List.length_append]; omega
def fCall (q : Ky) (vs : List Nat) : Fl := .mk 6 0 0 0 ky0 q (vs.map Int.ofNat) []
theorem fCall_d (q : Ky) (vs : List Nat) : (fCall q vs).d = .agg [.int .i64 6, .int .i64 0, .int .i64 0, .int .i64 0, .str ⟨#[]⟩, .int .i64 0, .str q.name, .int .i64 q.ar, .slice (vs.map (fun (v : Nat) => D.int .i64 (v : Int))), .slice []] := by
 simp [fCall, Fl.d, Fl.cs, Fl.ds, ky0]
mutual
def ngoal : Gl → NS → List Fl × NS
 | .mk k a b n xs gs, s =>
  if k = 2 then ([fRow 2 0 []], s)
  else if k = 3 then nequal a b s
  else if k = 4 then ((nplaces xs s).2.1 ++ [fCall ⟨n, xs.length⟩ (nplaces xs s).1], (nplaces xs s).2.2)
  else if k = 8 then ((nplace a s).2.1 ++ [fRow 10 (nplace a s).1 []], (nplace a s).2.2)
  else if k = 5 then ngoals gs s
  else if k = 6 then ([fRow 8 0 (nwholes gs s).1], (nwholes gs s).2)
  else if k = 7 then ([fRow 9 0 (nwholes gs s).1], (nwholes gs s).2)
  else if k = 9 then ([fRow 11 (nnumber n s).1 (nwholes gs (nnumber n s).2).1], (nwholes gs (nnumber n s).2).2)
  else ([], s)
def ngoals : List Gl → NS → List Fl × NS
 | [], s => ([], s)
 | g :: gs, s => ((ngoal g s).1 ++ (ngoals gs (ngoal g s).2).1, (ngoals gs (ngoal g s).2).2)
def nwholes : List Gl → NS → List Fl × NS
 | [], s => ([], s)
 | g :: gs, s => (nwhole (ngoal g s).1 :: (nwholes gs (ngoal g s).2).1, (nwholes gs (ngoal g s).2).2)
end
theorem nwholes_len : ∀ (gs : List Gl) (s : NS), (nwholes gs s).1.length = gs.length
 | [], s => by simp [nwholes]
 | g :: gs, s => by simp only [nwholes, List.length_cons, nwholes_len gs]
mutual
theorem ngoal_size : ∀ (g : Gl) (s : NS), (ngoal g s).1.length ≤ g.nodes ∧ s.next ≤ (ngoal g s).2.next ∧ (ngoal g s).2.next ≤ s.next + g.nodes
 | .mk k a b n xs gs, s => by
  have h1 := nequal_size a b s
  have h2 := nplaces_size xs s
  have h3 := nplace_size a s
  have h4 := ngoals_size gs s
  have h5 := nwholes_size gs s
  have h6 := nwholes_size gs (nnumber n s).2
  have h7 := nnumber_next n s
  have ha := a.nodes_pos
  unfold ngoal
  simp only [Gl.nodes]
  split
  ·simp only [List.length_cons, List.length_nil]; omega
  ·split
   ·omega
   ·split
    ·simp only [List.length_append, List.length_cons, List.length_nil]; omega
    ·split
     ·simp only [List.length_append, List.length_cons, List.length_nil]; omega
     ·split
      ·omega
      ·split
       ·simp only [List.length_cons, List.length_nil]; omega
       ·split
        ·simp only [List.length_cons, List.length_nil]; omega
        ·split
         ·simp only [List.length_cons, List.length_nil]; omega
         ·simp only [List.length_nil]; omega
theorem ngoals_size : ∀ (gs : List Gl) (s : NS), (ngoals gs s).1.length ≤ Gl.nodess gs ∧ s.next ≤ (ngoals gs s).2.next ∧ (ngoals gs s).2.next ≤ s.next + Gl.nodess gs
 | [], s => by simp [ngoals, Gl.nodess]
 | g :: gs, s => by
  have h1 := ngoal_size g s
  have h2 := ngoals_size gs (ngoal g s).2
  simp only [ngoals, Gl.nodess, List.length_append]; omega
theorem nwholes_size : ∀ (gs : List Gl) (s : NS), s.next ≤ (nwholes gs s).2.next ∧ (nwholes gs s).2.next ≤ s.next + Gl.nodess gs
 | [], s => by simp [nwholes, Gl.nodess]
 | g :: gs, s => by
  have h1 := ngoal_size g s
  have h2 := nwholes_size gs (ngoal g s).2
  simp only [nwholes, Gl.nodess]; omega
end
end Go.Aug

/- Flat goals: the row of what goals come to. -/
namespace Go.Aug
open Go.Proofs
set_option maxRecDepth 100000
set_option linter.unusedSimpArgs false
attribute [local irreducible] hid andK letA onSome onVar onArr arrOnly onInt onBool onTup idxA ldV ldD addO appTo fillL slA srcK nilQ retW gif sgd sguard svc sops sdops sagain aopO aLoad aStore aBin aUn aConv aLen aIndexAddr aIndex aIndexAddrS aIndexS aSlice aAppend aBuild aBuildSlice aMakeSlice aField aFieldOf aCallOp deepK deepL frzM putE newK newV growV ACall roundQ thenQ inBlockQ sret cnd szs nilC onMap onRow aLookup aMapUpdate aMakeMap
attribute [local go_sem] Int.natCast_zero
def GoalC (eb : EbG) (g : Gl) : Prop := ∀ (H : Heap) (r bm : Nat) (s : NS) (_ : NAt H r bm s) (_ : s.next + g.nodes ≤ 1099511627773) (K : A → Heap → Prop)
  (_ : ∀ a, RowA H [r, bm] ((ngoal g s).1.map Fl.d) a → K a (withA (nset H r bm (ngoal g s).2) a 39 10 ((ngoal g s).1.map Fl.d))),
  ACall Tryd.prog (seatV eb) 48 [.ref r 0, .d g.d] H K
set_option maxHeartbeats 4000000 in
theorem wholes_ok {eb : EbG} (gs : List Gl) (hl : gs.length ≤ 32768) (ih : ∀ g ∈ gs, GoalC eb g) (H : Heap) (r bm : Nat) (s : NS) (h : NAt H r bm s) (hlim : s.next + Gl.nodess gs ≤ 1099511627773) (K : A → Heap → Prop)
  (hK : K (.d (.slice ((nwholes gs s).1.map Fl.d))) (nset H r bm (nwholes gs s).2)) :
  ACall Tryd.prog (seatV eb) 94 [.ref r 0, .d (.slice (gs.map Gl.d))] H K := by
 have hne := h.ne
 have hfew := h.few
 simp only [nset_is hne.2] at hK
 refine ACall.nin h ?_
 refine ACall.by mixed fn94 (by simp) ?_
 conv in s94 => cbv
 refine svc_start ?_
 simp -dsimp only [go_sem, gS]
 refine svc_loop (X := Nat × List Fl × NS × A × Heap) (fun y => [(0, .ref r 0), (5, y.2.2.2.1), (8, .d (.slice (gs.map Gl.d))), (9, .d (.int .i64 gs.length)), (10, .d (.int .i64 y.1))])
  (fun y G => G = hp y.2.2.2.2 [(r, nvar y.2.2.1 bm), (bm, nmap y.2.2.1)] ∧ AccN H [r, bm] [pcF y.2.1 y.2.2.2.1] y.2.2.2.2 ∧ y.1 ≤ gs.length ∧ (y.2.1 ++ (nwholes (gs.drop y.1) y.2.2.1).1, (nwholes (gs.drop y.1) y.2.2.1).2) = nwholes gs s ∧ y.2.2.1.next + Gl.nodess (gs.drop y.1) ≤ s.next + Gl.nodess gs ∧ y.2.1.length = y.1)
  (fun y => gs.length - y.1) (0, [], s, .nils, H) _ ⟨rfl, (AccN.none H [r, bm]).nil _ _, by simp, by simp, by simp, rfl⟩ (by simp -dsimp only [go_sem, gS]) (leH_hp (by simp only [hpS, eq_self, implies_true, hne]) (by simp only [hpS, eq_self, implies_true, hne])) ?_
 rintro ⟨j, out, s1, a, R⟩ G ⟨hG, hacc, hj, hrun, hnx, hout⟩
 simp only at hG hacc hj hrun hnx hout
 subst hG
 simp -dsimp only [go_sem, gS]
 refine gif_split (fun q1 => ?_) (fun q1 => ?_)
 ·have q1' : j < gs.length := by have := of_decide_eq_true q1; omega
  obtain ⟨⟨k, ⟨k1, n1, i1, xs1⟩, ⟨k2, n2, i2, xs2⟩, n, xs, gs1⟩, hx⟩ := list_at q1'
  have hwj := wrapN (k := j) (by omega)
  rw [drop_at hx] at hrun hnx
  simp only [nwholes, Gl.nodess] at hrun hnx
  simp -dsimp only [go_sem, gS, q1, hx, Gl.d, Gl.cs, Tm.cs, List.cons_append, List.nil_append]
  refine newK_hp (fun b7 f7 => ?_)
  simp only [off_cons, off_nil] at f7
  simp -dsimp only [go_sem, gS, hne, f7]
  have hgs := ngoal_size (.mk k (.mk k1 n1 i1 xs1) (.mk k2 n2 i2 xs2) n xs gs1) s1
  refine ih (.mk k (.mk k1 n1 i1 xs1) (.mk k2 n2 i2 xs2) n xs gs1) (List.mem_of_getElem? hx) _ r bm s1 ⟨by simp only [hpS, eq_self, implies_true, hne, f7], by simp only [hpS, eq_self, implies_true, hne, f7], hne, by omega⟩ (by omega) _ (fun a' hrow => ?_)
  generalize hu : ngoal (.mk k (.mk k1 n1 i1 xs1) (.mk k2 n2 i2 xs2) n xs gs1) s1 = u at hrun hgs hrow ⊢
  obtain ⟨rows, s2⟩ := u
  simp only at hrun hgs hrow
  simp -dsimp only [go_sem, gS, hne, f7]
  obtain ⟨hacc', hw', hn'⟩ := hacc.take (E := 39) (sz := 10) (l := [(r, nvar s1 bm), (bm, nmap s1), (b7, .var [.d (.int .i64 k), .d (.int .i64 k1), .d (.str n1), .d (.int .i64 i1), .d (.slice (Tm.ds xs1)), .d (.int .i64 k2), .d (.str n2), .d (.int .i64 i2), .d (.slice (Tm.ds xs2)), .d (.str n), .d (.slice (xs.map Tm.d)), .d (.slice (Gl.ds gs1))])]) (by simp only [hpS, eq_self, implies_true, hne]) hrow
  rw [hw' [(r, nvar s2 bm), (bm, nmap s2), (b7, .var [.d (.int .i64 k), .d (.int .i64 k1), .d (.str n1), .d (.int .i64 i1), .d (.slice (Tm.ds xs1)), .d (.int .i64 k2), .d (.str n2), .d (.int .i64 i2), .d (.slice (Tm.ds xs2)), .d (.str n), .d (.slice (xs.map Tm.d)), .d (.slice (Gl.ds gs1))])] (fun _ h => h)]
  have f7' := hn' b7 (by simp only [hpS, eq_self, implies_true, hne, f7]) f7.2.2.2.2
  generalize withA R a' 39 10 (rows.map Fl.d) = R3 at hacc' f7' ⊢
  have hok3 : okK [r, bm] R3 [(r, nvar s2 bm), (bm, nmap s2), (b7, .var [.d (.int .i64 k), .d (.int .i64 k1), .d (.str n1), .d (.int .i64 i1), .d (.slice (Tm.ds xs1)), .d (.int .i64 k2), .d (.str n2), .d (.int .i64 i2), .d (.slice (Tm.ds xs2)), .d (.str n), .d (.slice (xs.map Tm.d)), .d (.slice (Gl.ds gs1))])] := by simp only [hpS, eq_self, implies_true, hne, f7, f7']
  refine ACall.frz [true] ?_
  simp only [frzM]
  refine AccN.deep (pre := []) hacc' hok3 (fun R4 hacc4 hn4 => ?_)
  have f74 := hn4 b7 f7'
  refine whole_ok rows (by omega) _ _ ?_
  generalize hnw : nwhole rows = w at hrun ⊢
  obtain ⟨wk, wx, wy, wi, wc, wp, wxs, wgs⟩ := w
  simp -dsimp only [go_sem, gS, hne, f7, f74, Fl.d, Fl.cs]
  refine newV_hp (fun b19 v19 f19 w19 => ?_)
  simp only [off_cons, off_nil] at f19
  simp -dsimp only [go_sem, gS, hne, f7, f74, f19]
  refine AccN.appTo (pre := []) (p := pcF out a) (post := []) hacc4 (by simp only [hpS, eq_self, implies_true, hne, f7, f74, f19]) (by simp only [hpS, eq_self, implies_true, hne]) (by simp only [List.length_map, List.length_cons, List.length_nil]; omega) (fun a2 R5 hacc5 hn5 => ?_)
  have f75 := hn5 b7 (by simp only [hpS, eq_self, implies_true, hne, f7, f74, f19]) f74
  have f195 := hn5 b19 (by simp only [hpS, eq_self, implies_true, hne, f7, f74, f19]) f19.2.2.2.2.2.2
  have hacc6 : AccN H [r, bm] [pcF (out ++ [(.mk wk wx wy wi wc wp wxs wgs)]) a2] R5 := by
   simp only [pcF, List.map_append]; exact hacc5
  simp -dsimp only [go_sem, gS, hne, f7, f75, f19, f195, hwj]
  refine roundQ_next (j + 1, out ++ [(.mk wk wx wy wi wc wp wxs wgs)], s2, a2, R5) _ ⟨rfl, hacc6, q1', by rw [← hrun]; simp, by simp only; omega, by simp [hout]⟩ (by simp only; omega) (by simp -dsimp only [go_sem, gS]) (leH_hp (by simp only [hpS, eq_self, implies_true, hne, f7, f75, f19, f195]) (by simp only [hpS, eq_self, implies_true, hne, f7, f75, f19, f195]))
 ·rw [drop_end (by have := of_decide_eq_false q1; omega)] at hrun
  simp only [nwholes, List.append_nil] at hrun
  rw [← hrun] at hK
  simp -dsimp only [go_sem, gS, q1, hne]
  refine retW_deep ?_
  refine AccN.deep (pre := []) hacc (by simp only [hpS, eq_self, implies_true, hne]) (fun R4 hacc4 hn4 => ?_)
  exact retW_drop (G := hp H [(r, nvar s1 bm), (bm, nmap s1)]) (leH_hp2 hacc4.le (by simp only [hpS, eq_self, implies_true, hne]) (by simp only [hpS, eq_self, implies_true, hne])) (retW_is hK)
end Go.Aug

/- Flat goals: a goal. -/
namespace Go.Aug
open Go.Proofs
set_option maxRecDepth 100000
set_option linter.unusedSimpArgs false
attribute [local irreducible] hid andK letA onSome onVar onArr arrOnly onInt onBool onTup idxA ldV ldD addO appTo fillL slA srcK nilQ retW gif sgd sguard svc sops sdops sagain aopO aLoad aStore aBin aUn aConv aLen aIndexAddr aIndex aIndexAddrS aIndexS aSlice aAppend aBuild aBuildSlice aMakeSlice aField aFieldOf aCallOp deepK deepL frzM putE newK newV growV ACall roundQ thenQ inBlockQ sret cnd szs nilC onMap onRow aLookup aMapUpdate aMakeMap
attribute [local go_sem] Int.natCast_zero
set_option maxHeartbeats 8000000 in
theorem goalF_ok {eb : EbG} : ∀ (m : Nat) (g : Gl), _root_.SizeOf.sizeOf g ≤ m → g.small → GoalC eb g
 | 0, .mk k a b n xs gs, hm, _ => by simp at hm
 | m + 1, .mk k (.mk k1 n1 i1 xs1) (.mk k2 n2 i2 xs2) n xs gs, hm, hs => by
  have ih : ∀ g ∈ gs, GoalC eb g := fun g hg => goalF_ok m g (by have := List.sizeOf_lt_of_mem hg; simp only [Gl.mk.sizeOf_spec] at hm; omega) (by simp only [Gl.small] at hs; exact Gl.smalls_mem hs.2.2.2.2.2 g hg)
  simp only [Gl.small] at hs
  obtain ⟨hsa, hsb, hxl, hsx, hgl, -⟩ := hs
  intro H r bm s h hlim K hK
  have hne := h.ne
  have hfew := h.few
  simp only [nset_is hne.2] at hK
  simp only [Gl.nodes] at hlim
  have hpa := (Tm.mk k1 n1 i1 xs1).nodes_pos
  have hpb := (Tm.mk k2 n2 i2 xs2).nodes_pos
  refine ACall.nin h ?_
  refine ACall.by mixed fn48 (by simp) ?_
  conv in s48 => cbv
  refine svc_start ?_
  simp -dsimp only [go_sem, gS, Gl.d, Gl.cs, Tm.cs, List.cons_append, List.nil_append, Gl.ds_map]
  refine newK_hp (fun b3 f3 => ?_)
  simp only [off_cons, off_nil] at f3
  simp -dsimp only [go_sem, gS, hne, f3]
  refine gif_split (fun g1 => ?_) (fun g1 => ?_)
  ·have e : k = 2 := of_decide_eq_true g1
   have hg : ngoal (.mk k (.mk k1 n1 i1 xs1) (.mk k2 n2 i2 xs2) n xs gs) s = ([fRow 2 0 []], s) := by rw [e]; simp [ngoal]
   rw [hg] at hK
   simp -dsimp only [go_sem, gS, g1, hne, f3]
   simp only [List.map_cons, List.map_nil] at hK
   refine newV_hp (fun b22 v22 f22 w22 => ?_)
   simp only [off_cons, off_nil] at f22
   simp -dsimp only [go_sem, gS, hne, f3, f22]
   refine retW_drop (G := hp H [(r, nvar s bm), (bm, nmap s), (b22, .arr 39 10 v22 [(fRow 2 0 []).d])]) (leH_hp (by simp only [hpS, eq_self, implies_true, hne, f3, f22, fRow_d, List.map_nil]) (by simp only [hpS, eq_self, implies_true, hne, f3, f22, fRow_d, List.map_nil])) (retW_is ?_)
   exact row_new hK (by simp only [hpS, eq_self, implies_true, hne]) (show off H [(r, nvar s bm), (bm, nmap s)] b22 by simp only [hpS, eq_self, implies_true, f22]) w22
  simp -dsimp only [go_sem, gS, g1, hne, f3]
  refine gif_split (fun g2 => ?_) (fun g2 => ?_)
  ·have e : k = 3 := of_decide_eq_true g2
   have hg : ngoal (.mk k (.mk k1 n1 i1 xs1) (.mk k2 n2 i2 xs2) n xs gs) s = nequal (.mk k1 n1 i1 xs1) (.mk k2 n2 i2 xs2) s := by rw [e]; simp [ngoal]
   rw [hg] at hK
   simp -dsimp only [go_sem, gS, g2, hne, f3]
   refine equal_ok (.mk k1 n1 i1 xs1) (.mk k2 n2 i2 xs2) hsa hsb _ r bm s ⟨by simp only [hpS, eq_self, implies_true, hne, f3], by simp only [hpS, eq_self, implies_true, hne, f3], hne, hfew⟩ (by omega) _ (fun a' hrow => ?_)
   generalize hu : nequal (.mk k1 n1 i1 xs1) (.mk k2 n2 i2 xs2) s = u at hK hrow ⊢
   obtain ⟨rows, s3⟩ := u
   simp only at hK hrow
   simp -dsimp only [go_sem, gS, hne, f3]
   obtain ⟨hacc', hw', hn'⟩ := (AccN.none H [r, bm]).take (E := 39) (sz := 10) (l := [(r, nvar s bm), (bm, nmap s), (b3, .var [.d (.int .i64 k), .d (.int .i64 k1), .d (.str n1), .d (.int .i64 i1), .d (.slice (Tm.ds xs1)), .d (.int .i64 k2), .d (.str n2), .d (.int .i64 i2), .d (.slice (Tm.ds xs2)), .d (.str n), .d (.slice (xs.map Tm.d)), .d (.slice (gs.map Gl.d))])]) (by simp only [hpS, eq_self, implies_true, hne]) hrow
   rw [hw' [(r, nvar s3 bm), (bm, nmap s3), (b3, .var [.d (.int .i64 k), .d (.int .i64 k1), .d (.str n1), .d (.int .i64 i1), .d (.slice (Tm.ds xs1)), .d (.int .i64 k2), .d (.str n2), .d (.int .i64 i2), .d (.slice (Tm.ds xs2)), .d (.str n), .d (.slice (xs.map Tm.d)), .d (.slice (gs.map Gl.d))])] (fun _ h => h)]
   have f3' := hn' b3 (by simp only [hpS, eq_self, implies_true, hne, f3]) f3.2.2.2.2
   exact retW_rowX hacc' (by simp only [hpS, eq_self, implies_true, hne, f3, f3']) (l1 := [(r, nvar s3 bm), (bm, nmap s3)]) (by simp only [hpS, eq_self, implies_true, hne, f3]) (by simp only [hpS, eq_self, implies_true, hne, f3]) (fun hr => hK _ hr)
  simp -dsimp only [go_sem, gS, g2, hne, f3]
  refine gif_split (fun g3 => ?_) (fun g3 => ?_)
  ·have e : k = 4 := of_decide_eq_true g3
   have hg : ngoal (.mk k (.mk k1 n1 i1 xs1) (.mk k2 n2 i2 xs2) n xs gs) s = ((nplaces xs s).2.1 ++ [fCall ⟨n, xs.length⟩ (nplaces xs s).1], (nplaces xs s).2.2) := by rw [e]; simp [ngoal]
   rw [hg] at hK
   simp -dsimp only [go_sem, gS, g3, hne, f3]
   refine andK_split (by omega) ?_
   simp -dsimp only [go_sem, gS, hne, f3]
   refine newV_hp (fun b6 v6 f6 w6 => ?_)
   simp only [off_cons, off_nil] at f6
   simp -dsimp only [go_sem, gS, hne, f3, f6]
   refine svc_loop (X := Nat × List Nat × List Fl × NS × A × Heap) (fun y => [(0, .ref r 0), (3, .ref b3 0), (5, y.2.2.2.2.1), (6, .own b6 v6), (38, .d (.slice (xs.map Tm.d))), (39, .d (.int .i64 xs.length)), (40, .d (.int .i64 y.1))])
    (fun y G => G = hp y.2.2.2.2.2 [(r, nvar y.2.2.2.1 bm), (bm, nmap y.2.2.2.1), (b3, .var [.d (.int .i64 k), .d (.int .i64 k1), .d (.str n1), .d (.int .i64 i1), .d (.slice (Tm.ds xs1)), .d (.int .i64 k2), .d (.str n2), .d (.int .i64 i2), .d (.slice (Tm.ds xs2)), .d (.str n), .d (.slice (xs.map Tm.d)), .d (.slice (gs.map Gl.d))]), (b6, .arr 3 1 v6 (y.2.1.map (fun (v : Nat) => D.int .i64 (v : Int)) ++ List.replicate (xs.length - y.1) (D.int .i64 0)))] ∧ AccN H [r, bm] [pcF y.2.2.1 y.2.2.2.2.1] y.2.2.2.2.2 ∧ y.2.2.2.2.2 b3 = none ∧ y.2.2.2.2.2 b6 = none ∧ y.2.1.length = y.1 ∧ y.1 ≤ xs.length ∧ (y.2.1 ++ (nplaces (xs.drop y.1) y.2.2.2.1).1, y.2.2.1 ++ (nplaces (xs.drop y.1) y.2.2.2.1).2.1, (nplaces (xs.drop y.1) y.2.2.2.1).2.2) = nplaces xs s ∧ y.2.2.2.1.next + Tm.nodess (xs.drop y.1) ≤ s.next + Tm.nodess xs ∧ y.2.2.1.length + Tm.nodess (xs.drop y.1) ≤ Tm.nodess xs)
    (fun y => xs.length - y.1) (0, [], [], s, .nils, H) _ ⟨rfl, (AccN.none H [r, bm]).nil _ _, f3.2.2.2.2, f6.2.2.2.2.2.2, rfl, by simp, by simp, by simp, by simp⟩ (by simp -dsimp only [go_sem, gS]) (leH_hp (by simp only [hpS, eq_self, implies_true, hne, f3, f6, List.map_nil, List.nil_append, Nat.sub_zero]) (by simp only [hpS, eq_self, implies_true, hne, f3, f6, List.map_nil, List.nil_append, Nat.sub_zero])) ?_
   rintro ⟨j, vs, out, s1, a, R⟩ G ⟨hG, hacc, f3', f6', hvl, hj, hrun, hnx, hout⟩
   simp only at hG hacc f3' f6' hvl hj hrun hnx hout
   subst hG
   have hxn := Tm.nodess_length xs
   simp -dsimp only [go_sem, gS]
   refine gif_split (fun q1 => ?_) (fun q1 => ?_)
   ·have q1' : j < xs.length := by have := of_decide_eq_true q1; omega
    obtain ⟨⟨tk, tn, ti, ta⟩, hx⟩ := list_at q1'
    have hwj := wrapN (k := j) (by omega)
    have hst : Tm.small (.mk tk tn ti ta) := Tm.smalls_mem hsx _ (List.mem_of_getElem? hx)
    rw [drop_at hx] at hrun hnx hout
    simp only [nplaces, Tm.nodess] at hrun hnx hout
    obtain ⟨d, hd⟩ : ∃ d, xs.length - j = d + 1 := ⟨xs.length - j - 1, by omega⟩
    rw [hd]
    have hd1 : xs.length - (j + 1) = d := by omega
    have hset : ∀ m : Nat, (vs.map (fun (v : Nat) => D.int .i64 (v : Int)) ++ List.replicate (d + 1) (D.int .i64 0)).set j (.int .i64 (m : Int)) = (vs ++ [m]).map (fun (v : Nat) => D.int .i64 (v : Int)) ++ List.replicate d (D.int .i64 0) := fun m => by rw [← hvl]; exact set_nums vs d m
    have hget : (vs.map (fun (v : Nat) => D.int .i64 (v : Int)) ++ List.replicate (d + 1) (D.int .i64 0))[j]? = some (D.int .i64 0) := by
     rw [List.getElem?_append_right (by simp [hvl]), List.length_map, hvl, Nat.sub_self]; rfl
    simp -dsimp only [go_sem, gS, q1, hx, Tm.d, Tm.cs, f3, f6, f3', f6', hne]
    refine newK_hp (fun b8 f8 => ?_)
    simp only [off_cons, off_nil] at f8
    simp -dsimp only [go_sem, gS, hne, f3, f6, f3', f6', f8]
    have hps := nplace_size (.mk tk tn ti ta) s1
    refine place_ok (.mk tk tn ti ta) hst _ r bm s1 ⟨by simp only [hpS, eq_self, implies_true, hne, f3, f6, f3', f6', f8], by simp only [hpS, eq_self, implies_true, hne, f3, f6, f3', f6', f8], hne, by omega⟩ (by omega) _ (fun a' hrow => ?_)
    generalize hu : nplace (.mk tk tn ti ta) s1 = u at hrun hrow hps ⊢
    obtain ⟨pv, rows, s3⟩ := u
    simp only at hrun hrow hps
    simp -dsimp only [go_sem, gS, hne, f3, f6, f3', f6', f8]
    obtain ⟨hacc', hw', hn'⟩ := hacc.take (E := 39) (sz := 10) (l := [(r, nvar s1 bm), (bm, nmap s1), (b3, .var [.d (.int .i64 k), .d (.int .i64 k1), .d (.str n1), .d (.int .i64 i1), .d (.slice (Tm.ds xs1)), .d (.int .i64 k2), .d (.str n2), .d (.int .i64 i2), .d (.slice (Tm.ds xs2)), .d (.str n), .d (.slice (xs.map Tm.d)), .d (.slice (gs.map Gl.d))]), (b6, .arr 3 1 v6 (vs.map (fun (v : Nat) => D.int .i64 (v : Int)) ++ List.replicate (d+1) (D.int .i64 0))), (b8, .var [.d (.int .i64 tk), .d (.str tn), .d (.int .i64 ti), .d (.slice (Tm.ds ta))])]) (by simp only [hpS, eq_self, implies_true, hne]) hrow
    rw [hw' [(r, nvar s3 bm), (bm, nmap s3), (b3, .var [.d (.int .i64 k), .d (.int .i64 k1), .d (.str n1), .d (.int .i64 i1), .d (.slice (Tm.ds xs1)), .d (.int .i64 k2), .d (.str n2), .d (.int .i64 i2), .d (.slice (Tm.ds xs2)), .d (.str n), .d (.slice (xs.map Tm.d)), .d (.slice (gs.map Gl.d))]), (b6, .arr 3 1 v6 (vs.map (fun (v : Nat) => D.int .i64 (v : Int)) ++ List.replicate (d+1) (D.int .i64 0))), (b8, .var [.d (.int .i64 tk), .d (.str tn), .d (.int .i64 ti), .d (.slice (Tm.ds ta))])] (fun _ h => h)]
    have f34 := hn' b3 (by simp only [hpS, eq_self, implies_true, hne, f3, f6, f3', f6', f8]) f3'
    have f64 := hn' b6 (by simp only [hpS, eq_self, implies_true, hne, f3, f6, f3', f6', f8]) f6'
    have f84 := hn' b8 (by simp only [hpS, eq_self, implies_true, hne, f3, f6, f3', f6', f8]) f8.2.2.2.2.2.2.2.2
    generalize withA R a' 39 10 (rows.map Fl.d) = R3 at hacc' f34 f64 f84 ⊢
    have hok3 : okK [r, bm] R3 [(r, nvar s3 bm), (bm, nmap s3), (b3, .var [.d (.int .i64 k), .d (.int .i64 k1), .d (.str n1), .d (.int .i64 i1), .d (.slice (Tm.ds xs1)), .d (.int .i64 k2), .d (.str n2), .d (.int .i64 i2), .d (.slice (Tm.ds xs2)), .d (.str n), .d (.slice (xs.map Tm.d)), .d (.slice (gs.map Gl.d))]), (b6, .arr 3 1 v6 (vs.map (fun (v : Nat) => D.int .i64 (v : Int)) ++ List.replicate (d+1) (D.int .i64 0))), (b8, .var [.d (.int .i64 tk), .d (.str tn), .d (.int .i64 ti), .d (.slice (Tm.ds ta))])] := by simp only [hpS, eq_self, implies_true, hne, f3, f6, f8, f34, f64, f84]
    simp -dsimp only [go_sem, gS, hne, f3, f6, f8, f34, f64, f84]
    refine andK_split (by simp only [List.length_append, List.length_map, List.length_replicate]; omega) ?_
    simp -dsimp only [go_sem, gS, hne, f3, f6, f8, f34, f64, f84, hget, hset]
    have hok5 : okK [r, bm] R3 [(r, nvar s3 bm), (bm, nmap s3), (b3, .var [.d (.int .i64 k), .d (.int .i64 k1), .d (.str n1), .d (.int .i64 i1), .d (.slice (Tm.ds xs1)), .d (.int .i64 k2), .d (.str n2), .d (.int .i64 i2), .d (.slice (Tm.ds xs2)), .d (.str n), .d (.slice (xs.map Tm.d)), .d (.slice (gs.map Gl.d))]), (b6, .arr 3 1 v6 ((vs ++ [pv]).map (fun (v : Nat) => D.int .i64 (v : Int)) ++ List.replicate (d) (D.int .i64 0))), (b8, .var [.d (.int .i64 tk), .d (.str tn), .d (.int .i64 ti), .d (.slice (Tm.ds ta))])] := by simp only [hpS, eq_self, implies_true, hne, f3, f6, f8, f34, f64, f84]
    rw [AccN.src (pre := []) hacc' hok5]
    have hszs := szs_map (sz := 10) (f := Fl.d) (fun x => x.cs_length) rows
    simp -dsimp only [go_sem, gS, hszs]
    refine AccN.appTo (pre := [pcF rows a']) (p := pcF out a) (post := []) hacc' hok5 (by simp only [hpS, eq_self, implies_true, hne]) (by simp only [List.length_map]; omega) (fun a2 R4 hacc4 hn4 => ?_)
    have f35 := hn4 b3 (by simp only [hpS, eq_self, implies_true, hne, f3, f6, f8, f34, f64, f84]) f34
    have f65 := hn4 b6 (by simp only [hpS, eq_self, implies_true, hne, f3, f6, f8, f34, f64, f84]) f64
    have f85 := hn4 b8 (by simp only [hpS, eq_self, implies_true, hne, f3, f6, f8, f34, f64, f84]) f84
    have hacc5 : AccN H [r, bm] [pcF (out ++ rows) a2] R4 := by
     have := hacc4.without (pre := [])
     simp only [pcF, List.map_append]; exact this
    simp -dsimp only [go_sem, gS, hne, f3, f6, f8, f35, f65, f85, hwj]
    refine roundQ_next (j + 1, vs ++ [pv], out ++ rows, s3, a2, R4) _ ⟨rfl, hacc5, f35, f65, by simp [hvl], q1', by rw [← hrun]; simp, by simp only; omega, by simp only [List.length_append]; omega⟩ (by simp only; omega) (by simp -dsimp only [go_sem, gS]) (leH_hp (by simp only [hpS, eq_self, implies_true, hne, f3, f6, f8, f35, f65, f85, hd1]) (by simp only [hpS, eq_self, implies_true, hne, f3, f6, f8, f35, f65, f85, hd1]))
   ·have q1' : j = xs.length := by have := of_decide_eq_false q1; omega
    subst q1'
    rw [drop_end (Nat.le_refl _)] at hrun hnx hout
    simp only [nplaces, Tm.nodess, List.append_nil] at hrun hnx hout
    rw [← hrun] at hK
    simp only at hK
    simp -dsimp only [go_sem, gS, q1, hne, f3, f6, f3', f6', Nat.sub_self, List.replicate_zero, List.append_nil]
    refine newV_hp (fun b67 v67 f67 w67 => ?_)
    simp only [off_cons, off_nil] at f67
    simp -dsimp only [go_sem, gS, hne, f3, f6, f3', f6', f67]
    refine AccN.appTo (pre := []) (p := pcF out a) (post := []) hacc (by simp only [hpS, eq_self, implies_true, hne, f3, f6, f3', f6', f67]) (by simp only [hpS, eq_self, implies_true, hne]) (by simp only [List.length_map, List.length_cons, List.length_nil]; omega) (fun a2 R5 hacc5 hn5 => ?_)
    have f35 := hn5 b3 (by simp only [hpS, eq_self, implies_true, hne, f3, f6, f3', f6', f67]) f3'
    have f65 := hn5 b6 (by simp only [hpS, eq_self, implies_true, hne, f3, f6, f3', f6', f67]) f6'
    have f675 := hn5 b67 (by simp only [hpS, eq_self, implies_true, hne, f3, f6, f3', f6', f67]) f67.2.2.2.2.2.2.2.2
    have hacc6 : AccN H [r, bm] [pcF (out ++ [fCall ⟨n, vs.length⟩ vs]) a2] R5 := by
     simp only [pcF, List.map_append, List.map_cons, List.map_nil, fCall_d]; exact hacc5
    have q67 := hacc.le.free f67.2.2.2.2.2.2.2.2
    rw [← hvl] at hK
    simp -dsimp only [go_sem, gS, hne, f3, f6, f35, f65, f67, f675]
    exact retW_rowX (ps := []) hacc6 (by simp only [hpS, eq_self, implies_true, hne, f3, f6, f35, f65, f67, f675]) (l1 := [(r, nvar s1 bm), (bm, nmap s1)]) (by simp only [hpS, eq_self, implies_true, hne, f3, f6, f35, f65, f67, f675]) (by simp only [hpS, eq_self, implies_true, hne, f3, f6, f67, q67]) (fun hr => hK _ hr)
  simp -dsimp only [go_sem, gS, g3, hne, f3]
  refine gif_split (fun g4 => ?_) (fun g4 => ?_)
  ·have e : k = 8 := of_decide_eq_true g4
   have hg : ngoal (.mk k (.mk k1 n1 i1 xs1) (.mk k2 n2 i2 xs2) n xs gs) s = ((nplace (.mk k1 n1 i1 xs1) s).2.1 ++ [fRow 10 (nplace (.mk k1 n1 i1 xs1) s).1 []], (nplace (.mk k1 n1 i1 xs1) s).2.2) := by rw [e]; simp [ngoal]
   rw [hg] at hK
   simp -dsimp only [go_sem, gS, g4, hne, f3]
   have hps := nplace_size (.mk k1 n1 i1 xs1) s
   refine place_ok (.mk k1 n1 i1 xs1) hsa _ r bm s ⟨by simp only [hpS, eq_self, implies_true, hne, f3], by simp only [hpS, eq_self, implies_true, hne, f3], hne, hfew⟩ (by omega) _ (fun a' hrow => ?_)
   generalize hu : nplace (.mk k1 n1 i1 xs1) s = u at hK hrow hps ⊢
   obtain ⟨pv, rows, s3⟩ := u
   simp only at hK hrow hps
   simp -dsimp only [go_sem, gS, hne, f3]
   obtain ⟨hacc', hw', hn'⟩ := (AccN.none H [r, bm]).take (E := 39) (sz := 10) (l := [(r, nvar s bm), (bm, nmap s), (b3, .var [.d (.int .i64 k), .d (.int .i64 k1), .d (.str n1), .d (.int .i64 i1), .d (.slice (Tm.ds xs1)), .d (.int .i64 k2), .d (.str n2), .d (.int .i64 i2), .d (.slice (Tm.ds xs2)), .d (.str n), .d (.slice (xs.map Tm.d)), .d (.slice (gs.map Gl.d))])]) (by simp only [hpS, eq_self, implies_true, hne]) hrow
   rw [hw' [(r, nvar s3 bm), (bm, nmap s3), (b3, .var [.d (.int .i64 k), .d (.int .i64 k1), .d (.str n1), .d (.int .i64 i1), .d (.slice (Tm.ds xs1)), .d (.int .i64 k2), .d (.str n2), .d (.int .i64 i2), .d (.slice (Tm.ds xs2)), .d (.str n), .d (.slice (xs.map Tm.d)), .d (.slice (gs.map Gl.d))])] (fun _ h => h)]
   have f3' := hn' b3 (by simp only [hpS, eq_self, implies_true, hne, f3]) f3.2.2.2.2
   generalize withA H a' 39 10 (rows.map Fl.d) = R3 at hacc' f3' ⊢
   refine newV_hp (fun b81 v81 f81 w81 => ?_)
   simp only [off_cons, off_nil] at f81
   simp -dsimp only [go_sem, gS, hne, f3, f3', f81]
   refine AccN.appTo (pre := []) (p := pcF rows a') (post := []) hacc' (by simp only [hpS, eq_self, implies_true, hne, f3, f3', f81]) (by simp only [hpS, eq_self, implies_true, hne]) (by simp only [List.length_map, List.length_cons, List.length_nil]; omega) (fun a2 R5 hacc5 hn5 => ?_)
   have f35 := hn5 b3 (by simp only [hpS, eq_self, implies_true, hne, f3, f3', f81]) f3'
   have f815 := hn5 b81 (by simp only [hpS, eq_self, implies_true, hne, f3, f3', f81]) f81.2.2.2.2.2.2
   have hacc6 : AccN H [r, bm] [pcF (rows ++ [fRow 10 pv []]) a2] R5 := by
    simp only [pcF, List.map_append, List.map_cons, List.map_nil, fRow_d]; exact hacc5
   have q81 := hacc'.le.free f81.2.2.2.2.2.2
   simp -dsimp only [go_sem, gS, hne, f3, f35, f81, f815]
   exact retW_rowX (ps := []) hacc6 (by simp only [hpS, eq_self, implies_true, hne, f3, f35, f81, f815]) (l1 := [(r, nvar s3 bm), (bm, nmap s3)]) (by simp only [hpS, eq_self, implies_true, hne, f3, f35, f81, f815]) (by simp only [hpS, eq_self, implies_true, hne, f3, f81, q81]) (fun hr => hK _ hr)
  simp -dsimp only [go_sem, gS, g4, hne, f3]
  refine gif_split (fun g5 => ?_) (fun g5 => ?_)
  ·have e : k = 5 := of_decide_eq_true g5
   have hg : ngoal (.mk k (.mk k1 n1 i1 xs1) (.mk k2 n2 i2 xs2) n xs gs) s = ngoals gs s := by rw [e]; simp [ngoal]
   rw [hg] at hK
   simp -dsimp only [go_sem, gS, g5, hne, f3]
   refine svc_loop (X := Nat × List Fl × NS × A × Heap) (fun y => [(0, .ref r 0), (13, y.2.2.2.1), (86, .d (.slice (gs.map Gl.d))), (87, .d (.int .i64 gs.length)), (88, .d (.int .i64 y.1))])
    (fun y G => G = hp y.2.2.2.2 [(r, nvar y.2.2.1 bm), (bm, nmap y.2.2.1), (b3, .var [.d (.int .i64 k), .d (.int .i64 k1), .d (.str n1), .d (.int .i64 i1), .d (.slice (Tm.ds xs1)), .d (.int .i64 k2), .d (.str n2), .d (.int .i64 i2), .d (.slice (Tm.ds xs2)), .d (.str n), .d (.slice (xs.map Tm.d)), .d (.slice (gs.map Gl.d))])] ∧ AccN H [r, bm] [pcF y.2.1 y.2.2.2.1] y.2.2.2.2 ∧ y.2.2.2.2 b3 = none ∧ y.1 ≤ gs.length ∧ (y.2.1 ++ (ngoals (gs.drop y.1) y.2.2.1).1, (ngoals (gs.drop y.1) y.2.2.1).2) = ngoals gs s ∧ y.2.2.1.next + Gl.nodess (gs.drop y.1) ≤ s.next + Gl.nodess gs ∧ y.2.1.length + Gl.nodess (gs.drop y.1) ≤ Gl.nodess gs)
    (fun y => gs.length - y.1) (0, [], s, .nils, H) _ ⟨rfl, (AccN.none H [r, bm]).nil _ _, f3.2.2.2.2, by simp, by simp, by simp, by simp⟩ (by simp -dsimp only [go_sem, gS]) (leH_hp (by simp only [hpS, eq_self, implies_true, hne, f3]) (by simp only [hpS, eq_self, implies_true, hne, f3])) ?_
   rintro ⟨j, out, s1, a, R⟩ G ⟨hG, hacc, f3', hj, hrun, hnx, hout⟩
   simp only at hG hacc f3' hj hrun hnx hout
   subst hG
   simp -dsimp only [go_sem, gS]
   refine gif_split (fun q1 => ?_) (fun q1 => ?_)
   ·have q1' : j < gs.length := by have := of_decide_eq_true q1; omega
    obtain ⟨⟨tk, ⟨t1, t2, t3, t4⟩, ⟨t5, t6, t7, t8⟩, t9, t10, t11⟩, hx⟩ := list_at q1'
    have hwj := wrapN (k := j) (by omega)
    rw [drop_at hx] at hrun hnx hout
    simp only [ngoals, Gl.nodess] at hrun hnx hout
    simp -dsimp only [go_sem, gS, q1, hx, f3, f3', hne, Gl.d, Gl.cs, Tm.cs, List.cons_append, List.nil_append]
    refine newK_hp (fun b15 f15 => ?_)
    simp only [off_cons, off_nil] at f15
    simp -dsimp only [go_sem, gS, hne, f3, f3', f15]
    have hgs := ngoal_size (.mk tk (.mk t1 t2 t3 t4) (.mk t5 t6 t7 t8) t9 t10 t11) s1
    refine ih (.mk tk (.mk t1 t2 t3 t4) (.mk t5 t6 t7 t8) t9 t10 t11) (List.mem_of_getElem? hx) _ r bm s1 ⟨by simp only [hpS, eq_self, implies_true, hne, f3, f3', f15], by simp only [hpS, eq_self, implies_true, hne, f3, f3', f15], hne, by omega⟩ (by omega) _ (fun a' hrow => ?_)
    generalize hu : ngoal (.mk tk (.mk t1 t2 t3 t4) (.mk t5 t6 t7 t8) t9 t10 t11) s1 = u at hrun hgs hrow ⊢
    obtain ⟨rows, s2⟩ := u
    simp only at hrun hgs hrow
    simp -dsimp only [go_sem, gS, hne, f3, f3', f15]
    obtain ⟨hacc', hw', hn'⟩ := hacc.take (E := 39) (sz := 10) (l := [(r, nvar s1 bm), (bm, nmap s1), (b3, .var [.d (.int .i64 k), .d (.int .i64 k1), .d (.str n1), .d (.int .i64 i1), .d (.slice (Tm.ds xs1)), .d (.int .i64 k2), .d (.str n2), .d (.int .i64 i2), .d (.slice (Tm.ds xs2)), .d (.str n), .d (.slice (xs.map Tm.d)), .d (.slice (gs.map Gl.d))]), (b15, .var [.d (.int .i64 tk), .d (.int .i64 t1), .d (.str t2), .d (.int .i64 t3), .d (.slice (Tm.ds t4)), .d (.int .i64 t5), .d (.str t6), .d (.int .i64 t7), .d (.slice (Tm.ds t8)), .d (.str t9), .d (.slice (t10.map Tm.d)), .d (.slice (Gl.ds t11))])]) (by simp only [hpS, eq_self, implies_true, hne]) hrow
    rw [hw' [(r, nvar s2 bm), (bm, nmap s2), (b3, .var [.d (.int .i64 k), .d (.int .i64 k1), .d (.str n1), .d (.int .i64 i1), .d (.slice (Tm.ds xs1)), .d (.int .i64 k2), .d (.str n2), .d (.int .i64 i2), .d (.slice (Tm.ds xs2)), .d (.str n), .d (.slice (xs.map Tm.d)), .d (.slice (gs.map Gl.d))]), (b15, .var [.d (.int .i64 tk), .d (.int .i64 t1), .d (.str t2), .d (.int .i64 t3), .d (.slice (Tm.ds t4)), .d (.int .i64 t5), .d (.str t6), .d (.int .i64 t7), .d (.slice (Tm.ds t8)), .d (.str t9), .d (.slice (t10.map Tm.d)), .d (.slice (Gl.ds t11))])] (fun _ h => h)]
    have f34 := hn' b3 (by simp only [hpS, eq_self, implies_true, hne, f3, f3', f15]) f3'
    have f154 := hn' b15 (by simp only [hpS, eq_self, implies_true, hne, f3, f3', f15]) f15.2.2.2.2.2.2
    generalize withA R a' 39 10 (rows.map Fl.d) = R3 at hacc' f34 f154 ⊢
    have hok3 : okK [r, bm] R3 [(r, nvar s2 bm), (bm, nmap s2), (b3, .var [.d (.int .i64 k), .d (.int .i64 k1), .d (.str n1), .d (.int .i64 i1), .d (.slice (Tm.ds xs1)), .d (.int .i64 k2), .d (.str n2), .d (.int .i64 i2), .d (.slice (Tm.ds xs2)), .d (.str n), .d (.slice (xs.map Tm.d)), .d (.slice (gs.map Gl.d))]), (b15, .var [.d (.int .i64 tk), .d (.int .i64 t1), .d (.str t2), .d (.int .i64 t3), .d (.slice (Tm.ds t4)), .d (.int .i64 t5), .d (.str t6), .d (.int .i64 t7), .d (.slice (Tm.ds t8)), .d (.str t9), .d (.slice (t10.map Tm.d)), .d (.slice (Gl.ds t11))])] := by simp only [hpS, eq_self, implies_true, hne, f3, f15, f34, f154]
    rw [AccN.src (pre := []) hacc' hok3]
    have hszs := szs_map (sz := 10) (f := Fl.d) (fun x => x.cs_length) rows
    simp -dsimp only [go_sem, gS, hszs]
    refine AccN.appTo (pre := [pcF rows a']) (p := pcF out a) (post := []) hacc' hok3 (by simp only [hpS, eq_self, implies_true, hne]) (by simp only [List.length_map]; omega) (fun a2 R4 hacc4 hn4 => ?_)
    have f35 := hn4 b3 (by simp only [hpS, eq_self, implies_true, hne, f3, f15, f34, f154]) f34
    have f155 := hn4 b15 (by simp only [hpS, eq_self, implies_true, hne, f3, f15, f34, f154]) f154
    have hacc5 : AccN H [r, bm] [pcF (out ++ rows) a2] R4 := by
     have := hacc4.without (pre := [])
     simp only [pcF, List.map_append]; exact this
    simp -dsimp only [go_sem, gS, hne, f3, f15, f35, f155, hwj]
    refine roundQ_next (j + 1, out ++ rows, s2, a2, R4) _ ⟨rfl, hacc5, f35, q1', by rw [← hrun]; simp, by simp only; omega, by simp only [List.length_append]; omega⟩ (by simp only; omega) (by simp -dsimp only [go_sem, gS]) (leH_hp (by simp only [hpS, eq_self, implies_true, hne, f3, f15, f35, f155]) (by simp only [hpS, eq_self, implies_true, hne, f3, f15, f35, f155]))
   ·rw [drop_end (by have := of_decide_eq_false q1; omega)] at hrun
    simp only [ngoals, List.append_nil] at hrun
    rw [← hrun] at hK
    simp only at hK
    simp -dsimp only [go_sem, gS, q1, hne, f3, f3']
    exact retW_row (ps := []) hacc (by simp only [hpS, eq_self, implies_true, hne, f3, f3']) (l1 := [(r, nvar s1 bm), (bm, nmap s1)]) (by simp only [hpS, eq_self, implies_true, hne, f3, f3']) (by simp only [hpS, eq_self, implies_true, hne, f3]) (fun hr => hK _ hr)
  simp -dsimp only [go_sem, gS, g5, hne, f3]
  refine gif_split (fun g6 => ?_) (fun g6 => ?_)
  ·have e : k = 6 := of_decide_eq_true g6
   have hg : ngoal (.mk k (.mk k1 n1 i1 xs1) (.mk k2 n2 i2 xs2) n xs gs) s = ([fRow 8 0 (nwholes gs s).1], (nwholes gs s).2) := by rw [e]; simp [ngoal]
   rw [hg] at hK
   simp -dsimp only [go_sem, gS, g6, hne, f3]
   refine wholes_ok gs hgl ih _ r bm s ⟨by simp only [hpS, eq_self, implies_true, hne, f3], by simp only [hpS, eq_self, implies_true, hne, f3], hne, hfew⟩ (by omega) _ ?_
   generalize hu : nwholes gs s = u at hK ⊢
   obtain ⟨ws, s3⟩ := u
   simp only [List.map_cons, List.map_nil] at hK
   simp -dsimp only [go_sem, gS, hne, f3]
   refine newV_hp (fun b106 v106 f106 w106 => ?_)
   simp only [off_cons, off_nil] at f106
   simp -dsimp only [go_sem, gS, hne, f3, f106]
   refine retW_drop (G := hp H [(r, nvar s3 bm), (bm, nmap s3), (b106, .arr 39 10 v106 [(fRow 8 0 ws).d])]) (leH_hp (by simp only [hpS, eq_self, implies_true, hne, f3, f106, fRow_d]) (by simp only [hpS, eq_self, implies_true, hne, f3, f106, fRow_d])) (retW_is ?_)
   exact row_new hK (by simp only [hpS, eq_self, implies_true, hne]) (show off H [(r, nvar s3 bm), (bm, nmap s3)] b106 by simp only [hpS, eq_self, implies_true, f106]) w106
  simp -dsimp only [go_sem, gS, g6, hne, f3]
  refine gif_split (fun g7 => ?_) (fun g7 => ?_)
  ·have e : k = 7 := of_decide_eq_true g7
   have hg : ngoal (.mk k (.mk k1 n1 i1 xs1) (.mk k2 n2 i2 xs2) n xs gs) s = ([fRow 9 0 (nwholes gs s).1], (nwholes gs s).2) := by rw [e]; simp [ngoal]
   rw [hg] at hK
   simp -dsimp only [go_sem, gS, g7, hne, f3]
   refine wholes_ok gs hgl ih _ r bm s ⟨by simp only [hpS, eq_self, implies_true, hne, f3], by simp only [hpS, eq_self, implies_true, hne, f3], hne, hfew⟩ (by omega) _ ?_
   generalize hu : nwholes gs s = u at hK ⊢
   obtain ⟨ws, s3⟩ := u
   simp only [List.map_cons, List.map_nil] at hK
   simp -dsimp only [go_sem, gS, hne, f3]
   refine newV_hp (fun b114 v114 f114 w114 => ?_)
   simp only [off_cons, off_nil] at f114
   simp -dsimp only [go_sem, gS, hne, f3, f114]
   refine retW_drop (G := hp H [(r, nvar s3 bm), (bm, nmap s3), (b114, .arr 39 10 v114 [(fRow 9 0 ws).d])]) (leH_hp (by simp only [hpS, eq_self, implies_true, hne, f3, f114, fRow_d]) (by simp only [hpS, eq_self, implies_true, hne, f3, f114, fRow_d])) (retW_is ?_)
   exact row_new hK (by simp only [hpS, eq_self, implies_true, hne]) (show off H [(r, nvar s3 bm), (bm, nmap s3)] b114 by simp only [hpS, eq_self, implies_true, f114]) w114
  simp -dsimp only [go_sem, gS, g7, hne, f3]
  refine gif_split (fun g8 => ?_) (fun g8 => ?_)
  ·have e : k = 9 := of_decide_eq_true g8
   have hg : ngoal (.mk k (.mk k1 n1 i1 xs1) (.mk k2 n2 i2 xs2) n xs gs) s = ([fRow 11 (nnumber n s).1 (nwholes gs (nnumber n s).2).1], (nwholes gs (nnumber n s).2).2) := by rw [e]; simp [ngoal]
   rw [hg] at hK
   simp -dsimp only [go_sem, gS, g8, hne, f3]
   have hnn := nnumber_next n s
   refine number_ok _ r bm s ⟨by simp only [hpS, eq_self, implies_true, hne, f3], by simp only [hpS, eq_self, implies_true, hne, f3], hne, hfew⟩ n _ ?_
   simp -dsimp only [go_sem, gS, hne, f3]
   refine wholes_ok gs hgl ih _ r bm (nnumber n s).2 ⟨by simp only [hpS, eq_self, implies_true, hne, f3], by simp only [hpS, eq_self, implies_true, hne, f3], hne, by omega⟩ (by omega) _ ?_
   generalize hu : nwholes gs (nnumber n s).2 = u at hK ⊢
   obtain ⟨ws, s3⟩ := u
   simp only [List.map_cons, List.map_nil] at hK
   simp -dsimp only [go_sem, gS, hne, f3]
   refine newV_hp (fun b127 v127 f127 w127 => ?_)
   simp only [off_cons, off_nil] at f127
   simp -dsimp only [go_sem, gS, hne, f3, f127]
   refine retW_drop (G := hp H [(r, nvar s3 bm), (bm, nmap s3), (b127, .arr 39 10 v127 [(fRow 11 (nnumber n s).1 ws).d])]) (leH_hp (by simp only [hpS, eq_self, implies_true, hne, f3, f127, fRow_d]) (by simp only [hpS, eq_self, implies_true, hne, f3, f127, fRow_d])) (retW_is ?_)
   exact row_new hK (by simp only [hpS, eq_self, implies_true, hne]) (show off H [(r, nvar s3 bm), (bm, nmap s3)] b127 by simp only [hpS, eq_self, implies_true, f127]) w127
  simp -dsimp only [go_sem, gS, g8, hne, f3]
  have hg : ngoal (.mk k (.mk k1 n1 i1 xs1) (.mk k2 n2 i2 xs2) n xs gs) s = ([], s) := by
   have e1 := of_decide_eq_false g1; have e2 := of_decide_eq_false g2; have e3 := of_decide_eq_false g3; have e4 := of_decide_eq_false g4
   have e5 := of_decide_eq_false g5; have e6 := of_decide_eq_false g6; have e7 := of_decide_eq_false g7; have e8 := of_decide_eq_false g8
   simp only [ngoal, if_neg e1, if_neg e2, if_neg e3, if_neg e4, if_neg e5, if_neg e6, if_neg e7, if_neg e8]
  rw [hg] at hK
  simp only [List.map_nil] at hK
  exact retW_drop (G := hp H [(r, nvar s bm), (bm, nmap s)]) (leH_hp (by simp only [hpS, eq_self, implies_true, hne, f3]) (by simp only [hpS, eq_self, implies_true, hne, f3])) (retW_is (hK .nils (.inl ⟨rfl, rfl⟩)))
end Go.Aug

/- The names of the program: predicates that an index has; predicates that are built in. -/
namespace Go.Aug
open Go.Proofs
set_option maxRecDepth 100000
set_option linter.unusedSimpArgs false
attribute [local irreducible] hid andK letA onSome onVar onArr arrOnly onInt onBool onTup idxA ldV ldD addO appTo fillL slA srcK nilQ retW gif sgd sguard svc sops sdops sagain aopO aLoad aStore aBin aUn aConv aLen aIndexAddr aIndex aIndexAddrS aIndexS aSlice aAppend aBuild aBuildSlice aMakeSlice aField aFieldOf aCallOp deepK deepL frzM putE newK newV growV ACall roundQ thenQ inBlockQ sret cnd szs nilC onMap onRow aLookup aMapUpdate aMakeMap
attribute [local go_sem] Int.natCast_zero
def fidx {α : Type} (p : α → Bool) : List α → Option Nat
 | [] => none
 | x :: xs => if p x = true then some 0 else (fidx p xs).map (· + 1)
theorem fidx_at {α : Type} {p : α → Bool} : ∀ {l : List α} {i : Nat}, fidx p l = some i → ∃ x, l[i]? = some x ∧ l.find? p = some x
 | x :: xs, i, h => by
  simp only [fidx] at h
  split at h
  ·rename_i e; cases h; exact ⟨x, rfl, by simp [List.find?, e]⟩
  ·rename_i e
   cases hx : fidx p xs with
   | none => rw [hx] at h; cases h
   | some j =>
    rw [hx] at h; cases h
    obtain ⟨y, h1, h2⟩ := fidx_at hx
    exact ⟨y, by simpa using h1, by simp only [List.find?]; rw [show p x = false by simpa using e]; exact h2⟩
theorem fidx_none {α : Type} {p : α → Bool} : ∀ {l : List α}, fidx p l = none → l.find? p = none
 | [], _ => rfl
 | x :: xs, h => by
  simp only [fidx] at h
  split at h
  ·cases h
  ·rename_i e
   cases hx : fidx p xs with
   | none => simp only [List.find?]; rw [show p x = false by simpa using e]; exact fidx_none hx
   | some j => rw [hx] at h; cases h
def idxI (o : Option Nat) : Int := match o with | some i => (i : Int) | none => -1
theorem index36_ok {eb : EbG} (l : List Pr) (hl : l.length ≤ 1048576) (f : FuncId) (caps : List A) (hf : callable Tryd.prog f = true) (p : Pr → Bool) (H : Heap)
  (hc : ∀ x ∈ l, ∀ K : A → Heap → Prop, K (.d (.bool (p x))) H → ACall Tryd.prog (seatV eb) f (.d x.d :: caps) H K) (K : A → Heap → Prop) (hK : K (.d (.int .i64 (idxI (fidx p l)))) H) :
  ACall Tryd.prog (seatV eb) 119 [.d (.slice (l.map Pr.d)), .func f caps] H K := by
 refine ACall.by mixed fn119 (by simp) ?_
 conv in s119 => cbv
 refine svc_start ?_
 simp -dsimp only [go_sem, gS]
 refine svc_loop (X := Nat) (fun k => [(0, .d (.slice (l.map Pr.d))), (1, .func f caps), (7, .d (.int .i64 l.length)), (8, .d (.int .i64 k))])
  (fun k G => G = H ∧ k ≤ l.length ∧ (fidx p (l.drop k)).map (· + k) = fidx p l) (fun k => l.length - k) 0 _ ⟨rfl, by omega, by simp⟩ (by simp -dsimp only [go_sem, gS]) (.refl _) ?_
 rintro k G ⟨hG, hk, hrun⟩
 subst hG
 simp -dsimp only [go_sem, gS]
 refine gif_split (fun g1 => ?_) (fun g1 => ?_)
 ·have g1' : k < l.length := by have := of_decide_eq_true g1; omega
  obtain ⟨x, hx⟩ := list_at g1'
  have hwj := wrapN (k := k) (by omega)
  rw [drop_at hx] at hrun
  simp only [fidx] at hrun
  have hcx := hc x (List.mem_of_getElem? hx)
  obtain ⟨⟨kn, ka⟩, ts, ms, cs⟩ := x
  simp -dsimp only [go_sem, gS, g1, hx, Pr.d, Pr.cs, hf, List.cons_append, List.nil_append]
  refine hcx _ ?_
  simp -dsimp only [go_sem, gS]
  refine gif_split (fun g2 => ?_) (fun g2 => ?_)
  ·simp only [if_pos g2, Option.map_some, Nat.zero_add] at hrun
   rw [← hrun] at hK
   simp -dsimp only [go_sem, gS, g2]
   exact retW_is hK
  ·have g2' : ¬ p ⟨⟨kn, ka⟩, ts, ms, cs⟩ = true := by rw [g2]; exact Bool.false_ne_true
   rw [if_neg g2', Option.map_map] at hrun
   simp -dsimp only [go_sem, gS, g2, hwj]
   exact roundQ_next (k + 1) _ ⟨rfl, g1', by rw [← hrun]; congr 1; funext i; simp only [Function.comp]; omega⟩ (by omega) (by simp -dsimp only [go_sem, gS]) (.refl _)
 ·rw [drop_end (by have := of_decide_eq_false g1; omega)] at hrun
  rw [← hrun] at hK
  simp -dsimp only [go_sem, gS, g1]
  exact retW_is hK
theorem predKey_ok {eb : EbG} (x : Pr) (H : Heap) (K : A → Heap → Prop) (hK : K (.d x.key.d) H) : ACall Tryd.prog (seatV eb) 67 [.d x.d] H K := by
 obtain ⟨⟨kn, ka⟩, ts, ms, cs⟩ := x
 refine ACall.hp_start ?_
 refine ACall.by mixed fn67 (by simp) ?_
 conv in s67 => cbv
 refine svc_start ?_
 simp -dsimp only [go_sem, gS, Pr.d, Pr.cs, List.cons_append, List.nil_append]
 refine newK_hp (fun b1 f1 => ?_)
 simp only [off_cons, off_nil] at f1
 simp -dsimp only [go_sem, gS, f1]
 refine newK_hp (fun b2 f2 => ?_)
 simp only [off_cons, off_nil] at f2
 simp -dsimp only [go_sem, gS, f1, f2]
 exact retW_drop (G := H) (leH_hp0 (by simp only [hpS, eq_self, implies_true, f1, f2])) (retW_is hK)
def pfind (l : List Pr) (q : Ky) : Option Pr := l.find? fun x => Ky.eqb x.key q
theorem find66_ok {eb : EbG} (l : List Pr) (hl : l.length ≤ 1048576) (q : Ky) (H : Heap) (K : A → Heap → Prop) (hK : K (.tup [.d ((pfind l q).getD ⟨⟨⟨#[]⟩, 0⟩, [], [], []⟩).d, .d (.bool (pfind l q).isSome)]) H) :
  ACall Tryd.prog (seatV eb) 66 [.d (.slice (l.map Pr.d)), .d q.d, .func 67 []] H K := by
 refine ACall.hp_start ?_
 refine ACall.by mixed fn66 (by simp) ?_
 conv in s66 => cbv
 refine svc_start ?_
 simp -dsimp only [go_sem, gS, Ky.d, Ky.cs]
 refine newK_hp (fun b4 f4 => ?_)
 simp only [off_cons, off_nil] at f4
 simp -dsimp only [go_sem, gS, f4]
 refine newK_hp (fun b5 f5 => ?_)
 simp only [off_cons, off_nil] at f5
 simp -dsimp only [go_sem, gS, f4, f5]
 refine newK_hp (fun b6 f6 => ?_)
 simp only [off_cons, off_nil] at f6
 simp -dsimp only [go_sem, gS, f4, f5, f6]
 refine index36_ok l hl 120 _ (by kernel_rfl) (fun x => Ky.eqb x.key q) _ (fun x hx K hK => ?_) _ ?_
 ·obtain ⟨⟨kn, ka⟩, ts, ms, cs⟩ := x
  have hxd : (⟨⟨kn, ka⟩, ts, ms, cs⟩ : Pr).d = .agg [.str kn, .int .i64 ka, .slice (ts.map Ty.d), .slice (ms.map Md.d), .slice (cs.map (.int .i64))] := rfl
  rw [hxd]
  refine ACall.by mixed fn120 (by simp) ?_
  conv in s120 => cbv
  refine svc_start ?_
  simp -dsimp only [go_sem, gS, f4, f5, f6]
  refine newK_hp (fun b3 f3 => ?_)
  simp only [off_cons, off_nil] at f3
  have hc67 : callable Tryd.prog 67 = true := by kernel_rfl
  simp -dsimp only [go_sem, gS, f3, f4, f5, f6, hc67, List.append_nil]
  refine predKey_ok ⟨⟨kn, ka⟩, ts, ms, cs⟩ _ _ ?_
  simp -dsimp only [go_sem, gS, f3, f4, f5, f6, Ky.d, Ky.cs]
  refine retW_drop (G := hp H [(b4, .var [.d (.str q.name), .d (.int .i64 q.ar)]), (b5, .var [.func 67 []]), (b6, .var [.d (.str ⟨#[]⟩), .d (.int .i64 0), .nils, .nils, .nils])]) (leH_hp (by simp only [hpS, eq_self, implies_true, f3, f4, f5, f6]) (by simp only [hpS, eq_self, implies_true, f3, f4, f5, f6])) (retW_is ?_)
  exact hK
 cases hi : fidx (fun x => Ky.eqb x.key q) l with
 | none =>
  have hno := fidx_none hi
  simp only [pfind, hno, Option.getD_none, Option.isSome_none] at hK
  have qn : decide ((-1 : Int) < 0) = true := by decide
  simp -dsimp only [go_sem, gS, f4, f5, f6, idxI, qn]
  refine newK_hp (fun b9 f9 => ?_)
  simp only [off_cons, off_nil] at f9
  simp -dsimp only [go_sem, gS, f4, f5, f6, f9]
  refine retW_tup [true, true] ?_
  simp -dsimp only [go_sem, gS, frzM]
  exact retW_drop (G := H) (leH_hp0 (by simp only [hpS, eq_self, implies_true, f4, f5, f6, f9])) (retW_is hK)
 | some i =>
  obtain ⟨x, hx, hso⟩ := fidx_at hi
  simp only [pfind, hso, Option.getD_some, Option.isSome_some] at hK
  obtain ⟨⟨kn, ka⟩, ts, ms, cs⟩ := x
  have qn : decide ((i : Int) < 0) = false := by simp
  simp -dsimp only [go_sem, gS, f4, f5, f6, idxI, qn, hx, Pr.d, Pr.cs, List.cons_append, List.nil_append]
  exact retW_drop (G := H) (leH_hp0 (by simp only [hpS, eq_self, implies_true, f4, f5, f6])) (retW_is hK)
def kyP0 : Pr := ⟨⟨⟨#[]⟩, 0⟩, [], [], []⟩
theorem pred_ok {eb : EbG} (x : Ix) (hl : x.preds.length ≤ 1048576) (q : Ky) (H : Heap) (K : A → Heap → Prop) (hK : K (.tup [.d ((pfind x.preds q).getD kyP0).d, .d (.bool (pfind x.preds q).isSome)]) H) :
  ACall Tryd.prog (seatV eb) 26 [.d x.d, .d q.d] H K := by
 obtain ⟨ts, cs, l⟩ := x
 simp only at hl hK
 refine ACall.hp_start ?_
 refine ACall.by mixed fn26 (by simp) ?_
 conv in s26 => cbv
 refine svc_start ?_
 simp -dsimp only [go_sem, gS, Ix.d, Ix.cs, Ky.d, Ky.cs]
 refine newK_hp (fun b2 f2 => ?_)
 simp only [off_cons, off_nil] at f2
 simp -dsimp only [go_sem, gS, f2]
 refine newK_hp (fun b3 f3 => ?_)
 simp only [off_cons, off_nil] at f3
 simp -dsimp only [go_sem, gS, f2, f3]
 refine newK_hp (fun b4 f4 => ?_)
 simp only [off_cons, off_nil] at f4
 simp -dsimp only [go_sem, gS, f2, f3, f4]
 refine find66_ok l hl q _ _ ?_
 change K (.tup [.d ((pfind l q).getD ⟨⟨⟨#[]⟩, 0⟩, [], [], []⟩).d, _]) H at hK
 generalize (pfind l q).getD ⟨⟨⟨#[]⟩, 0⟩, [], [], []⟩ = y at hK ⊢
 obtain ⟨⟨kn, ka⟩, ys, ms, zs⟩ := y
 simp -dsimp only [go_sem, gS, f2, f3, f4, Pr.d, Pr.cs, List.cons_append, List.nil_append]
 exact retW_drop (G := H) (leH_hp0 (by simp only [hpS, eq_self, implies_true, f2, f3, f4])) (retW_is hK)
theorem fidx_any {α : Type} {p : α → Bool} : ∀ {l : List α}, (fidx p l).isSome = l.any p
 | [] => rfl
 | x :: xs => by
  simp only [fidx, List.any_cons]
  split
  ·rename_i e; simp [e]
  ·rename_i e; rw [show p x = false by simpa using e, Bool.false_or, ← fidx_any]; cases fidx p xs <;> rfl
theorem contains36_ok {eb : EbG} (l : List Pr) (hl : l.length ≤ 1048576) (f : FuncId) (caps : List A) (hf : callable Tryd.prog f = true) (p : Pr → Bool) (H : Heap)
  (hc : ∀ x ∈ l, ∀ K : A → Heap → Prop, K (.d (.bool (p x))) H → ACall Tryd.prog (seatV eb) f (.d x.d :: caps) H K) (K : A → Heap → Prop) (hK : K (.d (.bool (l.any p))) H) :
  ACall Tryd.prog (seatV eb) 64 [.d (.slice (l.map Pr.d)), .func f caps] H K := by
 refine ACall.by mixed fn64 (by simp) ?_
 conv in s64 => cbv
 refine svc_start ?_
 simp -dsimp only [go_sem, gS]
 refine index36_ok l hl f caps hf p H hc _ ?_
 have hq : decide (idxI (fidx p l) ≥ 0) = l.any p := by
  rw [← fidx_any]; cases fidx p l <;> simp [idxI]
 simp -dsimp only [go_sem, gS]
 change retW _ (.d (.bool (decide (idxI (fidx p l) ≥ 0)))) _ _
 rw [hq]
 exact retW_is hK
theorem builtin_ok {eb : EbG} (H : Heap) (q : Ky) (K : A → Heap → Prop) (hK : K (.d (.bool (isBuiltin q))) H) :
  ACall Tryd.prog (seatV eb) 24 [.d q.d] H K := by
 refine ACall.hp_start ?_
 refine ACall.by mixed fn24 (by simp) ?_
 conv in s24 => cbv
 refine svc_start ?_
 simp -dsimp only [go_sem, gS, Ky.d, Ky.cs]
 refine newK_hp (fun b1 f1 => ?_)
 simp only [off_cons, off_nil] at f1
 simp -dsimp only [go_sem, gS, f1]
 refine builtins50_ok _ _ ?_
 have hlen : builtinsL.length ≤ 1048576 := by show 7 ≤ _; decide
 unfold isBuiltin at hK
 generalize builtinsL = l at hlen hK ⊢
 simp -dsimp only [go_sem, gS, f1]
 refine contains36_ok l hlen 65 _ (by kernel_rfl) (fun x => Ky.eqb x.key q) _ (fun x hx K hK => ?_) _ ?_
 ·obtain ⟨⟨kn, ka⟩, ts, ms, cs⟩ := x
  refine ACall.by mixed fn65 (by simp) ?_
  conv in s65 => cbv
  refine svc_start ?_
  simp -dsimp only [go_sem, gS, f1, Pr.d, Pr.cs, List.cons_append, List.nil_append]
  refine newK_hp (fun b2 f2 => ?_)
  simp only [off_cons, off_nil] at f2
  simp -dsimp only [go_sem, gS, f1, f2]
  exact retW_drop (G := hp H [(b1, .var [.d (.str q.name), .d (.int .i64 q.ar)])]) (leH_hp (by simp only [hpS, eq_self, implies_true, f1, f2]) (by simp only [hpS, eq_self, implies_true, f1, f2])) (retW_is hK)
 ·simp -dsimp only [go_sem, gS, f1]
  exact retW_drop (G := H) (leH_hp0 (by simp only [hpS, eq_self, implies_true, f1])) (retW_is hK)
end Go.Aug

/- Flat predicates: Flatten of the program. -/
namespace Go.Aug
open Go.Proofs
set_option maxRecDepth 100000
set_option linter.unusedSimpArgs false
attribute [local irreducible] hid andK letA onSome onVar onArr arrOnly onInt onBool onTup idxA ldV ldD addO appTo fillL slA srcK nilQ retW gif sgd sguard svc sops sdops sagain aopO aLoad aStore aBin aUn aConv aLen aIndexAddr aIndex aIndexAddrS aIndexS aSlice aAppend aBuild aBuildSlice aMakeSlice aField aFieldOf aCallOp deepK deepL frzM putE newK newV growV ACall roundQ thenQ inBlockQ sret cnd szs nilC onMap onRow aLookup aMapUpdate aMakeMap
attribute [local go_sem] Int.natCast_zero
def nheads : Nat → List Tm → NS → List Fl × NS
 | _, [], s => ([], s)
 | i, t :: ts, s => ((nunify i t s).1 ++ (nheads (i + 1) ts (nunify i t s).2).1, (nheads (i + 1) ts (nunify i t s).2).2)
theorem nheads_size : ∀ (i : Nat) (ts : List Tm) (s : NS), (nheads i ts s).1.length ≤ Tm.nodess ts ∧ s.next ≤ (nheads i ts s).2.next ∧ (nheads i ts s).2.next ≤ s.next + Tm.nodess ts
 | _, [], s => by simp [nheads, Tm.nodess]
 | i, t :: ts, s => by
  have h1 := nunify_size i t s
  have h2 := nheads_size (i + 1) ts (nunify i t s).2
  simp only [nheads, Tm.nodess, List.length_append]; omega
def It.nodes (it : It) : Nat := Tm.nodess it.args + it.body.nodes
/-- A clause from its next free number: the row and the next free number. -/
def nclause (it : It) (next : Nat) : Fl × Nat :=
 (nwhole ((nheads 0 it.args ⟨next, []⟩).1 ++ (ngoal it.body (nheads 0 it.args ⟨next, []⟩).2).1), (ngoal it.body (nheads 0 it.args ⟨next, []⟩).2).2.next)
def nclauses : List It → Nat → List Fl × Nat
 | [], n => ([], n)
 | it :: ls, n => ((nclause it n).1 :: (nclauses ls (nclause it n).2).1, (nclauses ls (nclause it n).2).2)
def sumNodes : List It → Nat
 | [] => 0
 | it :: ls => it.nodes + sumNodes ls
theorem nclause_next (it : It) (n : Nat) : n ≤ (nclause it n).2 ∧ (nclause it n).2 ≤ n + it.nodes := by
 have h1 := nheads_size 0 it.args ⟨n, []⟩
 have h2 := ngoal_size it.body (nheads 0 it.args ⟨n, []⟩).2
 simp only [nclause, It.nodes] at h1 h2 ⊢; omega
theorem nclauses_next : ∀ (ls : List It) (n : Nat), n ≤ (nclauses ls n).2 ∧ (nclauses ls n).2 ≤ n + sumNodes ls
 | [], n => by simp [nclauses, sumNodes]
 | it :: ls, n => by
  have h1 := nclause_next it n; have h2 := nclauses_next ls (nclause it n).2
  simp only [nclauses, sumNodes]; omega
theorem nclauses_len : ∀ (ls : List It) (n : Nat), (nclauses ls n).1.length = ls.length
 | [], _ => rfl
 | it :: ls, n => by simp only [nclauses, List.length_cons, nclauses_len ls]
def nbody : List Fl → Fl
 | [] => fRow 2 0 []
 | [g] => g
 | gs => fRow 8 0 gs
structure FP where
 key : Ky
 vars : Int
 body : Fl
def FP.cs (p : FP) : List D := [.str p.key.name, .int .i64 p.key.ar, .int .i64 p.vars] ++ p.body.cs
def FP.d (p : FP) : D := .agg p.cs
def fl0 : Fl := .mk 0 0 0 0 ky0 ky0 [] []
def fp0 : FP := ⟨ky0, 0, fl0⟩
theorem eqn_some {R : Heap} {b c : Nat} {o : AObj} (h1 : R b = some o) (h2 : R c = none) : eqn b c = false ∧ eqn c b = false := by
 have h : b ≠ c := by rintro rfl; rw [h1] at h2; cases h2
 exact ⟨eqn_ne h, eqn_ne h.symm⟩
/-- The items of a row of clauses. -/
def atIts (l : List It) (cs : List Int) : List It := cs.map fun c => l.getD c.toNat default
/-- What Flatten says: 0 with a predicate, or an error's number. -/
def nflat (l : List It) (x : Ix) (q : Ky) : Nat × FP :=
 match pfind x.preds q with
 | none => (1, fp0)
 | some p => if isBuiltin q = true then (1, fp0) else
  if 200 < (nclauses (atIts l p.clauses) q.ar.toNat).2 then (2, fp0) else (0, ⟨q, (nclauses (atIts l p.clauses) q.ar.toNat).2, nbody (nclauses (atIts l p.clauses) q.ar.toNat).1⟩)
def errD (n : Nat) : D := if n = 0 then .raw .nilIface else .sent n
set_option maxHeartbeats 8000000 in
theorem flatten_ok {eb : EbG} [ho1 : On eb 1] [ho2 : On eb 2] (l : List It) (hl : Srcs l) (x : Ix) (hx : x.preds.length ≤ 1048576) (q : Ky) (hqq : ∀ p, pfind x.preds q = some p → 0 ≤ q.ar ∧ q.ar ≤ 1048576)
  (hcl : ∀ p, pfind x.preds q = some p → p.clauses.length ≤ 1048576 ∧ (∀ c ∈ p.clauses, 0 ≤ c ∧ c < l.length) ∧ sumNodes (atIts l p.clauses) ≤ 549755813888) (H : Heap) (K : A → Heap → Prop)
  (hK : K (.tup [.d (nflat l x q).2.d, .d (errD (nflat l x q).1)]) H) :
  ACall Tryd.prog (seatV eb) 15 [.d (.slice (l.map It.d)), .d x.d, .d q.d] H K := by
 obtain ⟨xts, xcs, ps⟩ := x
 simp only at hx hcl hqq
 refine ACall.hp_start ?_
 have hg1 : (seatV eb).G 1 = some (.sent 1) := seatV_on ho1
 have hg2 : (seatV eb).G 2 = some (.sent 2) := seatV_on ho2
 refine ACall.by mixed fn15 (by simp) ?_
 conv in s15 => cbv
 refine svc_start ?_
 simp -dsimp only [go_sem, gS, Ix.d, Ix.cs, Ky.d, Ky.cs]
 refine newK_hp (fun b4 f4 => ?_)
 simp only [off_cons, off_nil] at f4
 simp -dsimp only [go_sem, gS, f4]
 refine newK_hp (fun b5 f5 => ?_)
 simp only [off_cons, off_nil] at f5
 simp -dsimp only [go_sem, gS, f4, f5]
 refine newK_hp (fun b6 f6 => ?_)
 simp only [off_cons, off_nil] at f6
 simp -dsimp only [go_sem, gS, f4, f5, f6]
 refine pred_ok ⟨xts, xcs, ps⟩ hx q _ _ ?_
 simp only
 cases hpf : pfind ps q with
 | none =>
  simp only [Option.getD_none, Option.isSome_none]
  simp -dsimp only [go_sem, gS, f4, f5, f6, kyP0, Pr.d, Pr.cs, List.map_nil, List.cons_append, List.nil_append]
  refine newK_hp (fun b8 f8 => ?_)
  simp only [off_cons, off_nil] at f8
  simp -dsimp only [go_sem, gS, f4, f5, f6, f8, hg1]
  have hn : nflat l ⟨xts, xcs, ps⟩ q = (1, fp0) := by simp only [nflat, hpf]
  rw [hn] at hK
  refine retW_tup [true, true] ?_
  simp -dsimp only [go_sem, gS, frzM]
  exact retW_drop (G := H) (leH_hp0 (by simp only [hpS, eq_self, implies_true, f4, f5, f6, f8])) (retW_is hK)
 | some p =>
  obtain ⟨hcn, hcr, hsn⟩ := hcl p hpf
  obtain ⟨hq, hqa⟩ := hqq p hpf
  obtain ⟨⟨pkn, pka⟩, pts, pms, pcs⟩ := p
  simp only [Option.getD_some, Option.isSome_some]
  simp only at hcn hcr hsn
  simp -dsimp only [go_sem, gS, f4, f5, f6, Pr.d, Pr.cs, List.cons_append, List.nil_append]
  refine newK_hp (fun b8 f8 => ?_)
  simp only [off_cons, off_nil] at f8
  simp -dsimp only [go_sem, gS, f4, f5, f6, f8]
  refine builtin_ok _ q _ ?_
  simp -dsimp only [go_sem, gS, f4, f5, f6, f8]
  refine gif_split (fun g1 => ?_) (fun g1 => ?_)
  ·simp -dsimp only [go_sem, gS, g1, f4, f5, f6, f8, hg1]
   have hn : nflat l ⟨xts, xcs, ps⟩ q = (1, fp0) := by simp only [nflat, hpf]; exact if_pos g1
   rw [hn] at hK
   refine retW_tup [true, true] ?_
   simp -dsimp only [go_sem, gS, frzM]
   exact retW_drop (G := H) (leH_hp0 (by simp only [hpS, eq_self, implies_true, f4, f5, f6, f8])) (retW_is hK)
  ·simp -dsimp only [go_sem, gS, g1, f4, f5, f6, f8]
   refine newK_hp (fun b10 f10 => ?_)
   simp only [off_cons, off_nil] at f10
   simp -dsimp only [go_sem, gS, f4, f5, f6, f8, f10]
   obtain ⟨ar, har⟩ := Int.eq_ofNat_of_zero_le hq
   have hn : nflat l ⟨xts, xcs, ps⟩ q = if 200 < (nclauses (atIts l pcs) ar).2 then (2, fp0) else (0, ⟨q, (nclauses (atIts l pcs) ar).2, nbody (nclauses (atIts l pcs) ar).1⟩) := by
    simp only [nflat, hpf, har, Int.toNat_natCast]; exact if_neg (by rw [g1]; exact Bool.false_ne_true)
   rw [hn] at hK
   simp only [har]
   have hal : (atIts l pcs).length = pcs.length := by simp [atIts]
   refine svc_loop (X := Nat × List Fl × Nat × A × A × Heap) (fun y => [(0, .d (.slice (l.map It.d))), (5, .ref b5 0), (6, .ref b6 0), (10, .ref b10 0), (11, y.2.2.2.1), (38, .d (.slice (pcs.map (.int .i64)))), (39, .d (.int .i64 pcs.length)), (40, .d (.int .i64 y.1))])
    (fun y G => G = hp y.2.2.2.2.2 [(b5, .var [.d (.str q.name), .d (.int .i64 ar)]), (b6, .var [.d (.str ⟨#[]⟩), .d (.int .i64 0), .d (.int .i64 0), .d (.int .i64 0), .d (.int .i64 0), .d (.int .i64 0), .d (.int .i64 0), .d (.str ⟨#[]⟩), .d (.int .i64 0), .d (.str ⟨#[]⟩), .d (.int .i64 0), .nils, .nils]), (b10, .var [.d (.int .i64 y.2.2.1), y.2.2.2.2.1])] ∧ AccN H [] [pcF y.2.1 y.2.2.2.1] y.2.2.2.2.2 ∧ y.2.2.2.2.2 b5 = none ∧ y.2.2.2.2.2 b6 = none ∧ y.2.2.2.2.2 b10 = none ∧ y.1 ≤ pcs.length ∧ (y.2.1 ++ (nclauses ((atIts l pcs).drop y.1) y.2.2.1).1, (nclauses ((atIts l pcs).drop y.1) y.2.2.1).2) = nclauses (atIts l pcs) ar ∧ y.2.2.1 + sumNodes ((atIts l pcs).drop y.1) ≤ ar + sumNodes (atIts l pcs) ∧ y.2.1.length = y.1)
    (fun y => pcs.length - y.1) (0, [], ar, .nils, .d (.raw (.map none)), H) _ ⟨rfl, (AccN.none H []).nil _ _, f5.2.2, f6.2.2.2.2, f10.2.2.2.2.2.2.2.2, by simp, by simp, by simp, rfl⟩ (by simp -dsimp only [go_sem, gS]) (leH_hp (by simp only [hpS, eq_self, implies_true, f4, f5, f6, f8, f10]) (by simp only [hpS, eq_self, implies_true, f4, f5, f6, f8, f10])) ?_
   rintro ⟨j, out, nx, a, mp, R⟩ G ⟨hG, hacc, f51, f61, f101, hj, hrun, hnx, hout⟩
   simp only at hG hacc f51 f61 f101 hj hrun hnx hout
   subst hG
   simp -dsimp only [go_sem, gS]
   refine gif_split (fun q1 => ?_) (fun q1 => ?_)
   ·have q1' : j < pcs.length := by have := of_decide_eq_true q1; omega
    obtain ⟨c, hx⟩ := list_at q1'
    have hcx := hcr c (List.mem_of_getElem? hx)
    obtain ⟨ci, rfl⟩ := Int.eq_ofNat_of_zero_le hcx.1
    obtain ⟨it, hit⟩ := list_at (show ci < l.length by omega)
    have hitx : (atIts l pcs)[j]? = some it := by simp [atIts, hx, List.getD, hit]
    have hwj := wrapN (k := j) (by omega)
    rw [drop_at hitx] at hrun hnx
    simp only [nclauses, sumNodes] at hrun hnx
    obtain ⟨x1, x2, x3, x4, x5, x6, x7, x8, x9, x10, x11, x12, hbody, hd⟩ := it.opn
    have hgd : it.body.d = .agg [x1, x2, x3, x4, x5, x6, x7, x8, x9, x10, x11, x12] := by rw [Gl.d, hbody]
    simp -dsimp only [go_sem, gS, q1, hx, hit, hd, f51, f61, f101]
    refine newK_hp (fun b14 f14 => ?_)
    simp only [off_cons, off_nil] at f14
    simp -dsimp only [go_sem, gS, f5, f6, f10, f51, f61, f101, f14]
    have hit2 := hl.small it (List.mem_of_getElem? hit)
    obtain ⟨hav, hat⟩ := hit2.args
    refine newK_hp (fun b49 f49 => ?_)
    simp only [off_cons, off_nil] at f49
    simp -dsimp only [go_sem, gS, f5, f6, f10, f51, f61, f101, f14, f49]
    have hne : eqn b10 b49 = false ∧ eqn b49 b10 = false := ⟨f49.2.2.2.2.2.1, f49.2.2.2.2.1⟩
    have hnod := It.nodes.eq_def it
    have hm0 : nmap ⟨nx, []⟩ = .map (.one .str) [] := rfl
    refine svc_loop (X := Nat × List Fl × NS × A × Heap) (fun y => [(0, .d (.slice (l.map It.d))), (5, .ref b5 0), (6, .ref b6 0), (10, .ref b10 0), (11, a), (14, .ref b14 0), (15, y.2.2.2.1), (38, .d (.slice (pcs.map (.int .i64)))), (39, .d (.int .i64 pcs.length)), (40, .d (.int .i64 j)), (53, .d (.slice (it.args.map Tm.d))), (54, .d (.int .i64 it.args.length)), (55, .d (.int .i64 y.1))])
     (fun y G => G = Aug.hp y.2.2.2.2 [(b5, .var [.d (.str q.name), .d (.int .i64 ar)]), (b6, .var [.d (.str ⟨#[]⟩), .d (.int .i64 0), .d (.int .i64 0), .d (.int .i64 0), .d (.int .i64 0), .d (.int .i64 0), .d (.int .i64 0), .d (.str ⟨#[]⟩), .d (.int .i64 0), .d (.str ⟨#[]⟩), .d (.int .i64 0), .nils, .nils]), (b10, nvar y.2.2.1 b49), (b14, .var [.d (.int .i64 it.kind), .d (.str it.name), .d (.slice (it.vars.map .str)), .d (.slice (it.ctors.map Ct.d)), .d (.slice (it.types.map Ty.d)), .d (.slice (it.ways.map .bool)), .d (.int .i64 it.det), .d (.slice (it.args.map Tm.d)), .d x1, .d x2, .d x3, .d x4, .d x5, .d x6, .d x7, .d x8, .d x9, .d x10, .d x11, .d x12]), (b49, nmap y.2.2.1)] ∧ AccN H [] [pcF y.2.1 y.2.2.2.1, pcF out a] y.2.2.2.2 ∧ (y.2.2.2.2 b5 = none ∧ y.2.2.2.2 b6 = none ∧ y.2.2.2.2 b10 = none ∧ y.2.2.2.2 b14 = none ∧ y.2.2.2.2 b49 = none) ∧ y.1 ≤ it.args.length ∧ (y.2.1 ++ (nheads y.1 (it.args.drop y.1) y.2.2.1).1, (nheads y.1 (it.args.drop y.1) y.2.2.1).2) = nheads 0 it.args ⟨nx, []⟩ ∧ y.2.2.1.next + Tm.nodess (it.args.drop y.1) ≤ nx + Tm.nodess it.args ∧ y.2.1.length + Tm.nodess (it.args.drop y.1) ≤ Tm.nodess it.args)
     (fun y => it.args.length - y.1) (0, [], ⟨nx, []⟩, .nils, R) _ ⟨rfl, hacc.nil _ _, ⟨f51, f61, f101, f14.2.2.2.2.2.2, f49.2.2.2.2.2.2.2.2⟩, by simp, by simp, by simp, by simp⟩ (by simp -dsimp only [go_sem, gS]) (leH_hp (by simp only [hpS, eq_self, implies_true, f5, f6, f10, f51, f61, f101, f14, f49, hm0]) (by simp only [hpS, eq_self, implies_true, f5, f6, f10, f51, f61, f101, f14, f49, hm0])) ?_
    rintro ⟨k, rows, s1, a2, R2⟩ G ⟨hG, hacc2, f2, hk, hrun2, hnx2, hout2⟩
    simp only at hG hacc2 f2 hk hrun2 hnx2 hout2
    subst hG
    simp -dsimp only [go_sem, gS]
    refine gif_split (fun q2 => ?_) (fun q2 => ?_)
    ·have q2' : k < it.args.length := by have := of_decide_eq_true q2; omega
     obtain ⟨⟨tk, tn, ti, ta⟩, hx2⟩ := list_at q2'
     have hwk := wrapN (k := k) (by omega)
     rw [drop_at hx2] at hrun2 hnx2 hout2
     simp only [nheads, Tm.nodess] at hrun2 hnx2 hout2
     simp -dsimp only [go_sem, gS, q2, hx2, Tm.d, Tm.cs, f2, f5, f6, f10, f14, f49]
     refine newK_hp (fun b17 f17 => ?_)
     simp only [off_cons, off_nil] at f17
     simp -dsimp only [go_sem, gS, f2, f5, f6, f10, f14, f49, f17]
     have hsz := nunify_size k (.mk tk tn ti ta) s1
     refine unify_ok _ (.mk tk tn ti ta) (Nat.le_refl _) (Tm.smalls_mem hat _ (List.mem_of_getElem? hx2)) _ b10 b49 s1 ⟨by simp only [hpS, eq_self, implies_true, hne, f2, f5, f6, f10, f14, f49, f17], by simp only [hpS, eq_self, implies_true, hne, f2, f5, f6, f10, f14, f49, f17], hne, by omega⟩ k (by omega) _ (fun a' hrow => ?_)
     generalize hu : nunify k (.mk tk tn ti ta) s1 = u at hrun2 hsz hrow ⊢
     obtain ⟨rs, s3⟩ := u
     simp only at hrun2 hsz hrow
     simp -dsimp only [go_sem, gS, hne, f2, f5, f6, f10, f14, f49, f17]
     obtain ⟨hacc', hw', hn'⟩ := hacc2.take (E := 39) (sz := 10) (l := [(b5, .var [.d (.str q.name), .d (.int .i64 ar)]), (b6, .var [.d (.str ⟨#[]⟩), .d (.int .i64 0), .d (.int .i64 0), .d (.int .i64 0), .d (.int .i64 0), .d (.int .i64 0), .d (.int .i64 0), .d (.str ⟨#[]⟩), .d (.int .i64 0), .d (.str ⟨#[]⟩), .d (.int .i64 0), .nils, .nils]), (b10, nvar s1 b49), (b14, .var [.d (.int .i64 it.kind), .d (.str it.name), .d (.slice (it.vars.map .str)), .d (.slice (it.ctors.map Ct.d)), .d (.slice (it.types.map Ty.d)), .d (.slice (it.ways.map .bool)), .d (.int .i64 it.det), .d (.slice (it.args.map Tm.d)), .d x1, .d x2, .d x3, .d x4, .d x5, .d x6, .d x7, .d x8, .d x9, .d x10, .d x11, .d x12]), (b49, nmap s1), (b17, .var [.d (.int .i64 tk), .d (.str tn), .d (.int .i64 ti), .d (.slice (Tm.ds ta))])]) (by simp only [hpS, eq_self, implies_true, hne]) hrow
     rw [hw' [(b5, .var [.d (.str q.name), .d (.int .i64 ar)]), (b6, .var [.d (.str ⟨#[]⟩), .d (.int .i64 0), .d (.int .i64 0), .d (.int .i64 0), .d (.int .i64 0), .d (.int .i64 0), .d (.int .i64 0), .d (.str ⟨#[]⟩), .d (.int .i64 0), .d (.str ⟨#[]⟩), .d (.int .i64 0), .nils, .nils]), (b10, nvar s3 b49), (b14, .var [.d (.int .i64 it.kind), .d (.str it.name), .d (.slice (it.vars.map .str)), .d (.slice (it.ctors.map Ct.d)), .d (.slice (it.types.map Ty.d)), .d (.slice (it.ways.map .bool)), .d (.int .i64 it.det), .d (.slice (it.args.map Tm.d)), .d x1, .d x2, .d x3, .d x4, .d x5, .d x6, .d x7, .d x8, .d x9, .d x10, .d x11, .d x12]), (b49, nmap s3), (b17, .var [.d (.int .i64 tk), .d (.str tn), .d (.int .i64 ti), .d (.slice (Tm.ds ta))])] (fun _ h => h)]
     have f3 : _ ∧ _ ∧ _ ∧ _ ∧ _ := ⟨hn' b5 (by simp only [hpS, eq_self, implies_true, hne, f2, f5, f6, f10, f14, f49, f17]) f2.1, hn' b6 (by simp only [hpS, eq_self, implies_true, hne, f2, f5, f6, f10, f14, f49, f17]) f2.2.1, hn' b10 (by simp only [hpS, eq_self, implies_true, hne, f2, f5, f6, f10, f14, f49, f17]) f2.2.2.1, hn' b14 (by simp only [hpS, eq_self, implies_true, hne, f2, f5, f6, f10, f14, f49, f17]) f2.2.2.2.1, hn' b49 (by simp only [hpS, eq_self, implies_true, hne, f2, f5, f6, f10, f14, f49, f17]) f2.2.2.2.2⟩
     have f173 := hn' b17 (by simp only [hpS, eq_self, implies_true, hne, f2, f5, f6, f10, f14, f49, f17]) f17.2.2.2.2.2.2.2.2.2.2
     generalize withA R2 a' 39 10 (rs.map Fl.d) = R3 at hacc' f3 f173 ⊢
     have hok3 : okK [] R3 [(b5, .var [.d (.str q.name), .d (.int .i64 ar)]), (b6, .var [.d (.str ⟨#[]⟩), .d (.int .i64 0), .d (.int .i64 0), .d (.int .i64 0), .d (.int .i64 0), .d (.int .i64 0), .d (.int .i64 0), .d (.str ⟨#[]⟩), .d (.int .i64 0), .d (.str ⟨#[]⟩), .d (.int .i64 0), .nils, .nils]), (b10, nvar s3 b49), (b14, .var [.d (.int .i64 it.kind), .d (.str it.name), .d (.slice (it.vars.map .str)), .d (.slice (it.ctors.map Ct.d)), .d (.slice (it.types.map Ty.d)), .d (.slice (it.ways.map .bool)), .d (.int .i64 it.det), .d (.slice (it.args.map Tm.d)), .d x1, .d x2, .d x3, .d x4, .d x5, .d x6, .d x7, .d x8, .d x9, .d x10, .d x11, .d x12]), (b49, nmap s3), (b17, .var [.d (.int .i64 tk), .d (.str tn), .d (.int .i64 ti), .d (.slice (Tm.ds ta))])] := by simp only [hpS, eq_self, implies_true, hne, f5, f6, f10, f14, f49, f17, f3, f173]
     rw [AccN.src (pre := []) hacc' hok3]
     have hszs := szs_map (sz := 10) (f := Fl.d) (fun x => x.cs_length) rs
     simp -dsimp only [go_sem, gS, hszs]
     refine AccN.appTo (pre := [pcF rs a']) (p := pcF rows a2) (post := [pcF out a]) hacc' hok3 (by simp only [hpS, eq_self, implies_true, hne]) (by simp only [List.length_map]; omega) (fun a4 R4 hacc4 hn4 => ?_)
     have f4' : _ ∧ _ ∧ _ ∧ _ ∧ _ := ⟨hn4 b5 (by simp only [hpS, eq_self, implies_true, hne, f2, f5, f6, f10, f14, f49, f17, f3, f173]) f3.1, hn4 b6 (by simp only [hpS, eq_self, implies_true, hne, f2, f5, f6, f10, f14, f49, f17, f3, f173]) f3.2.1, hn4 b10 (by simp only [hpS, eq_self, implies_true, hne, f2, f5, f6, f10, f14, f49, f17, f3, f173]) f3.2.2.1, hn4 b14 (by simp only [hpS, eq_self, implies_true, hne, f2, f5, f6, f10, f14, f49, f17, f3, f173]) f3.2.2.2.1, hn4 b49 (by simp only [hpS, eq_self, implies_true, hne, f2, f5, f6, f10, f14, f49, f17, f3, f173]) f3.2.2.2.2⟩
     have f174 := hn4 b17 (by simp only [hpS, eq_self, implies_true, hne, f2, f5, f6, f10, f14, f49, f17, f3, f173]) f173
     have hacc5 : AccN H [] [pcF (rows ++ rs) a4, pcF out a] R4 := by
      have := hacc4.without (pre := [])
      simp only [pcF, List.map_append]; exact this
     simp -dsimp only [go_sem, gS, hne, f5, f6, f10, f14, f49, f17, f4', f174, hwk]
     refine roundQ_next (k + 1, rows ++ rs, s3, a4, R4) _ ⟨rfl, hacc5, f4', q2', by rw [← hrun2]; simp, by simp only; omega, by simp only [List.length_append]; omega⟩ (by simp only; omega) (by simp -dsimp only [go_sem, gS]) (leH_hp (by simp only [hpS, eq_self, implies_true, hne, f5, f6, f10, f14, f49, f17, f4', f174]) (by simp only [hpS, eq_self, implies_true, hne, f5, f6, f10, f14, f49, f17, f4', f174]))
    ·rw [drop_end (by have := of_decide_eq_false q2; omega)] at hrun2 hnx2 hout2
     simp only [nheads, Tm.nodess, List.append_nil] at hrun2 hnx2 hout2
     have hgs := ngoal_size it.body s1
     have hcl2 : nclause it nx = (nwhole (rows ++ (ngoal it.body s1).1), (ngoal it.body s1).2.next) := by simp only [nclause, ← hrun2]
     rw [hcl2] at hrun
     have hcn2 := nclause_next it nx
     rw [hcl2] at hcn2
     simp -dsimp only [go_sem, gS, q2, f2, f5, f6, f10, f14, f49]
     rw [← hgd]
     refine goalF_ok _ it.body (Nat.le_refl _) hit2.body _ b10 b49 s1 ⟨by simp only [hpS, eq_self, implies_true, hne, f2, f5, f6, f10, f14, f49], by simp only [hpS, eq_self, implies_true, hne, f2, f5, f6, f10, f14, f49], hne, by omega⟩ (by omega) _ (fun a' hrow => ?_)
     generalize hu : ngoal it.body s1 = u at hrun hgs hrow hcn2 ⊢
     obtain ⟨rs, s3⟩ := u
     simp only at hrun hgs hrow hcn2
     simp -dsimp only [go_sem, gS, hne, f2, f5, f6, f10, f14, f49]
     obtain ⟨hacc', hw', hn'⟩ := hacc2.take (E := 39) (sz := 10) (l := [(b5, .var [.d (.str q.name), .d (.int .i64 ar)]), (b6, .var [.d (.str ⟨#[]⟩), .d (.int .i64 0), .d (.int .i64 0), .d (.int .i64 0), .d (.int .i64 0), .d (.int .i64 0), .d (.int .i64 0), .d (.str ⟨#[]⟩), .d (.int .i64 0), .d (.str ⟨#[]⟩), .d (.int .i64 0), .nils, .nils]), (b10, nvar s1 b49), (b14, .var [.d (.int .i64 it.kind), .d (.str it.name), .d (.slice (it.vars.map .str)), .d (.slice (it.ctors.map Ct.d)), .d (.slice (it.types.map Ty.d)), .d (.slice (it.ways.map .bool)), .d (.int .i64 it.det), .d (.slice (it.args.map Tm.d)), .d x1, .d x2, .d x3, .d x4, .d x5, .d x6, .d x7, .d x8, .d x9, .d x10, .d x11, .d x12]), (b49, nmap s1)]) (by simp only [hpS, eq_self, implies_true, hne]) hrow
     rw [hw' [(b5, .var [.d (.str q.name), .d (.int .i64 ar)]), (b6, .var [.d (.str ⟨#[]⟩), .d (.int .i64 0), .d (.int .i64 0), .d (.int .i64 0), .d (.int .i64 0), .d (.int .i64 0), .d (.int .i64 0), .d (.str ⟨#[]⟩), .d (.int .i64 0), .d (.str ⟨#[]⟩), .d (.int .i64 0), .nils, .nils]), (b10, nvar s3 b49), (b14, .var [.d (.int .i64 it.kind), .d (.str it.name), .d (.slice (it.vars.map .str)), .d (.slice (it.ctors.map Ct.d)), .d (.slice (it.types.map Ty.d)), .d (.slice (it.ways.map .bool)), .d (.int .i64 it.det), .d (.slice (it.args.map Tm.d)), .d x1, .d x2, .d x3, .d x4, .d x5, .d x6, .d x7, .d x8, .d x9, .d x10, .d x11, .d x12]), (b49, nmap s3)] (fun _ h => h)]
     have f3 : _ ∧ _ ∧ _ ∧ _ ∧ _ := ⟨hn' b5 (by simp only [hpS, eq_self, implies_true, hne, f2, f5, f6, f10, f14, f49]) f2.1, hn' b6 (by simp only [hpS, eq_self, implies_true, hne, f2, f5, f6, f10, f14, f49]) f2.2.1, hn' b10 (by simp only [hpS, eq_self, implies_true, hne, f2, f5, f6, f10, f14, f49]) f2.2.2.1, hn' b14 (by simp only [hpS, eq_self, implies_true, hne, f2, f5, f6, f10, f14, f49]) f2.2.2.2.1, hn' b49 (by simp only [hpS, eq_self, implies_true, hne, f2, f5, f6, f10, f14, f49]) f2.2.2.2.2⟩
     generalize withA R2 a' 39 10 (rs.map Fl.d) = R3 at hacc' f3 ⊢
     have hok3 : okK [] R3 [(b5, .var [.d (.str q.name), .d (.int .i64 ar)]), (b6, .var [.d (.str ⟨#[]⟩), .d (.int .i64 0), .d (.int .i64 0), .d (.int .i64 0), .d (.int .i64 0), .d (.int .i64 0), .d (.int .i64 0), .d (.str ⟨#[]⟩), .d (.int .i64 0), .d (.str ⟨#[]⟩), .d (.int .i64 0), .nils, .nils]), (b10, nvar s3 b49), (b14, .var [.d (.int .i64 it.kind), .d (.str it.name), .d (.slice (it.vars.map .str)), .d (.slice (it.ctors.map Ct.d)), .d (.slice (it.types.map Ty.d)), .d (.slice (it.ways.map .bool)), .d (.int .i64 it.det), .d (.slice (it.args.map Tm.d)), .d x1, .d x2, .d x3, .d x4, .d x5, .d x6, .d x7, .d x8, .d x9, .d x10, .d x11, .d x12]), (b49, nmap s3)] := by simp only [hpS, eq_self, implies_true, hne, f5, f6, f10, f14, f49, f3]
     rw [AccN.src (pre := []) hacc' hok3]
     have hszs := szs_map (sz := 10) (f := Fl.d) (fun x => x.cs_length) rs
     simp -dsimp only [go_sem, gS, hszs]
     refine AccN.appTo (pre := [pcF rs a']) (p := pcF rows a2) (post := [pcF out a]) hacc' hok3 (by simp only [hpS, eq_self, implies_true, hne]) (by simp only [List.length_map]; omega) (fun a4 R4 hacc4 hn4 => ?_)
     have f4' : _ ∧ _ ∧ _ ∧ _ ∧ _ := ⟨hn4 b5 (by simp only [hpS, eq_self, implies_true, hne, f2, f5, f6, f10, f14, f49, f3]) f3.1, hn4 b6 (by simp only [hpS, eq_self, implies_true, hne, f2, f5, f6, f10, f14, f49, f3]) f3.2.1, hn4 b10 (by simp only [hpS, eq_self, implies_true, hne, f2, f5, f6, f10, f14, f49, f3]) f3.2.2.1, hn4 b14 (by simp only [hpS, eq_self, implies_true, hne, f2, f5, f6, f10, f14, f49, f3]) f3.2.2.2.1, hn4 b49 (by simp only [hpS, eq_self, implies_true, hne, f2, f5, f6, f10, f14, f49, f3]) f3.2.2.2.2⟩
     have hacc5 : AccN H [] [pcF (rows ++ rs) a4, pcF out a] R4 := by
      have := hacc4.without (pre := [])
      simp only [pcF, List.map_append]; exact this
     simp -dsimp only [go_sem, gS, hne, f5, f6, f10, f14, f49, f4']
     have hok4 : okK [] R4 [(b5, .var [.d (.str q.name), .d (.int .i64 ar)]), (b6, .var [.d (.str ⟨#[]⟩), .d (.int .i64 0), .d (.int .i64 0), .d (.int .i64 0), .d (.int .i64 0), .d (.int .i64 0), .d (.int .i64 0), .d (.str ⟨#[]⟩), .d (.int .i64 0), .d (.str ⟨#[]⟩), .d (.int .i64 0), .nils, .nils]), (b10, nvar s3 b49), (b14, .var [.d (.int .i64 it.kind), .d (.str it.name), .d (.slice (it.vars.map .str)), .d (.slice (it.ctors.map Ct.d)), .d (.slice (it.types.map Ty.d)), .d (.slice (it.ways.map .bool)), .d (.int .i64 it.det), .d (.slice (it.args.map Tm.d)), .d x1, .d x2, .d x3, .d x4, .d x5, .d x6, .d x7, .d x8, .d x9, .d x10, .d x11, .d x12]), (b49, nmap s3)] := by simp only [hpS, eq_self, implies_true, hne, f5, f6, f10, f14, f49, f4']
     refine ACall.frz [true] ?_
     simp only [frzM]
     refine AccN.deep (pre := []) hacc5 hok4 (fun R6 hacc6 hn6 => ?_)
     have f6' : _ ∧ _ ∧ _ ∧ _ ∧ _ := ⟨hn6 b5 f4'.1, hn6 b6 f4'.2.1, hn6 b10 f4'.2.2.1, hn6 b14 f4'.2.2.2.1, hn6 b49 f4'.2.2.2.2⟩
     refine whole_ok (rows ++ rs) (by simp only [List.length_append]; omega) _ _ ?_
     generalize hnw : nwhole (rows ++ rs) = w at hrun ⊢
     obtain ⟨wk, wx, wy, wi, wc, wp, wxs, wgs⟩ := w
     simp -dsimp only [go_sem, gS, hne, f5, f6, f10, f14, f49, f6', Fl.d, Fl.cs]
     refine newV_hp (fun b75 v75 f75 w75 => ?_)
     simp only [off_cons, off_nil] at f75
     simp -dsimp only [go_sem, gS, hne, f5, f6, f10, f14, f49, f6', f75]
     refine AccN.appTo (pre := []) (p := pcF out a) (post := []) hacc6 (by simp only [hpS, eq_self, implies_true, hne, f5, f6, f10, f14, f49, f6', f75]) (by simp only [hpS, eq_self, implies_true, hne]) (by simp only [List.length_map, List.length_cons, List.length_nil]; omega) (fun a7 R7 hacc7 hn7 => ?_)
     have f7' : _ ∧ _ ∧ _ ∧ _ ∧ _ := ⟨hn7 b5 (by simp only [hpS, eq_self, implies_true, hne, f5, f6, f10, f14, f49, f6', f75]) f6'.1, hn7 b6 (by simp only [hpS, eq_self, implies_true, hne, f5, f6, f10, f14, f49, f6', f75]) f6'.2.1, hn7 b10 (by simp only [hpS, eq_self, implies_true, hne, f5, f6, f10, f14, f49, f6', f75]) f6'.2.2.1, hn7 b14 (by simp only [hpS, eq_self, implies_true, hne, f5, f6, f10, f14, f49, f6', f75]) f6'.2.2.2.1, hn7 b49 (by simp only [hpS, eq_self, implies_true, hne, f5, f6, f10, f14, f49, f6', f75]) f6'.2.2.2.2⟩
     have f757 := hn7 b75 (by simp only [hpS, eq_self, implies_true, hne, f5, f6, f10, f14, f49, f6', f75]) f75.2.2.2.2.2.2.2.2.2.2
     have hacc8 : AccN H [] [pcF (out ++ [(.mk wk wx wy wi wc wp wxs wgs)]) a7] R7 := by
      simp only [pcF, List.map_append]; exact hacc7
     simp -dsimp only [go_sem, gS, hne, f5, f6, f10, f14, f49, f75, f7', f757, hwj]
     refine roundQ_next (j + 1, out ++ [(.mk wk wx wy wi wc wp wxs wgs)], s3.next, a7, .mp b49, R7) _ ⟨rfl, hacc8, f7'.1, f7'.2.1, f7'.2.2.1, q1', by rw [← hrun]; simp, by simp only; omega, by simp [hout]⟩ (by simp only; omega) (by simp -dsimp only [go_sem, gS]) (leH_hp (by simp only [hpS, eq_self, implies_true, hne, f5, f6, f10, f14, f49, f75, f7', f757]) (by simp only [hpS, eq_self, implies_true, hne, f5, f6, f10, f14, f49, f75, f7', f757]))
   ·rw [drop_end (by have := of_decide_eq_false q1; omega)] at hrun hnx
    simp only [nclauses, sumNodes, List.append_nil] at hrun hnx
    rw [← hrun] at hK
    simp only at hK
    simp -dsimp only [go_sem, gS, q1, f5, f6, f10, f51, f61, f101]
    refine gif_split (fun q2 => ?_) (fun q2 => ?_)
    ·have e2 : 200 < nx := by have := of_decide_eq_true q2; omega
     rw [if_pos e2] at hK
     simp -dsimp only [go_sem, gS, q2, f5, f6, f10, f51, f61, f101, hg2]
     refine retW_tup [true, true] ?_
     simp -dsimp only [go_sem, gS, frzM]
     exact retW_drop (G := H) (leH_hp02 hacc.le (by simp only [hpS, eq_self, implies_true, f5, f6, f10, f51, f61, f101])) (retW_is hK)
    ·have e2 : ¬ 200 < nx := by have := of_decide_eq_false q2; omega
     rw [if_neg e2] at hK
     simp -dsimp only [go_sem, gS, q2, f5, f6, f10, f51, f61, f101]
     have hol : out.length ≤ 1048576 := by omega
     rcases hacc.mid (pre := []) with ⟨hout0, ha0⟩ | ⟨b, v, ha0, h1, h2, hv, hH⟩
     ·simp only [pcF] at ha0
      subst ha0
      have ho0 : out = [] := by simpa [pcF] using hout0
      subst ho0
      simp only [FP.d, FP.cs, har, nbody] at hK
      repeat' (refine And.intro ?_ ?_)
      all_goals
       refine newK_hp (fun b18 f18 => ?_)
       simp only [off_cons, off_nil] at f18
       have q18 := hacc.le.free f18.2.2.2.2.2.2
       simp -dsimp only [go_sem, gS, f5, f6, f10, f51, f61, f101, f18]
       refine retW_tup [true, true] ?_
       simp -dsimp only [go_sem, gS, frzM]
       exact retW_drop (G := H) (leH_hp02 hacc.le (by simp only [hpS, eq_self, implies_true, f5, f6, f10, f51, f61, f101, f18, q18])) (retW_is hK)
     ·simp only [pcF] at hH ha0
      subst ha0
      have q5 := eqn_some hH f51
      have q6 := eqn_some hH f61
      have q10 := eqn_some hH f101
      repeat' (refine And.intro ?_ ?_)
      all_goals
       refine newK_hp (fun b18 f18 => ?_)
       simp only [off_cons, off_nil] at f18
       have q18 := eqn_some hH f18.2.2.2.2.2.2
       have q19 := hacc.le.free f18.2.2.2.2.2.2
       simp -dsimp only [go_sem, gS, f5, f6, f10, f51, f61, f101, f18, hH, q5, q6, q10, q18, q19, h2]
       refine gif_split (fun q3 => ?_) (fun q3 => ?_)
       ·have e3 : out = [] := List.length_eq_zero_iff.1 (by have := of_decide_eq_true q3; omega)
        subst e3
        simp only [FP.d, FP.cs, har, nbody] at hK
        simp -dsimp only [go_sem, gS, q3, f5, f6, f10, f51, f61, f101, f18, hH, q5, q6, q10, q18, q19, h2]
        refine retW_tup [true, true] ?_
        simp -dsimp only [go_sem, gS, frzM]
        exact retW_drop (G := H) (leH_hp02 hacc.le (by simp only [hpS, eq_self, implies_true, f5, f6, f10, f51, f61, f101, f18, hH, q5, q6, q10, q18, q19, h2])) (retW_is hK)
       ·have e3 : out.length ≠ 0 := by have := of_decide_eq_false q3; omega
        simp -dsimp only [go_sem, gS, q3, f5, f6, f10, f51, f61, f101, f18, hH, q5, q6, q10, q18, q19, h2]
        refine gif_split (fun q4 => ?_) (fun q4 => ?_)
        ·obtain ⟨⟨gk, gx, gy, gi, gc, gp, gxs, ggs⟩, rfl⟩ : ∃ g, out = [g] := List.length_eq_one_iff.1 (by have := of_decide_eq_true q4; omega)
         simp only [FP.d, FP.cs, har, nbody, Fl.cs] at hK
         simp only [List.map_cons, List.map_nil, Fl.d, Fl.cs] at hH
         simp -dsimp only [go_sem, gS, q4, f5, f6, f10, f51, f61, f101, f18, hH, q5, q6, q10, q18, q19, h2]
         refine andK_split (by decide) ?_
         simp -dsimp only [go_sem, gS, f5, f6, f10, f51, f61, f101, f18, hH, q5, q6, q10, q18, q19, h2, Int.toNat_zero, List.getElem?_cons_zero]
         refine retW_tup [true, true] ?_
         simp -dsimp only [go_sem, gS, frzM]
         exact retW_drop (G := H) (leH_hp02 hacc.le (by simp only [hpS, eq_self, implies_true, f5, f6, f10, f51, f61, f101, f18, hH, q5, q6, q10, q18, q19, h2])) (retW_is hK)
        ·have e4 : out.length ≠ 1 := by have := of_decide_eq_false q4; omega
         have ew : nbody out = fRow 8 0 out := by
          rcases out with _ | ⟨a1, _ | ⟨a2, gs⟩⟩
          ·simp at e3
          ·simp at e4
          ·rfl
         rw [ew] at hK
         simp only [FP.d, FP.cs, har, fRow, Fl.cs, Fl.ds_map, ky0, List.map_nil] at hK
         simp -dsimp only [go_sem, gS, q4, f5, f6, f10, f51, f61, f101, f18, hH, q5, q6, q10, q18, q19, h2]
         refine retW_tup [true, true] ?_
         simp -dsimp only [go_sem, gS, frzM, f5, f6, f10, f51, f61, f101, f18, hH, q5, q6, q10, q18, q19, h2]
         exact retW_drop (G := H) (leH_hp02 hacc.le (by simp only [hpS, eq_self, implies_true, f5, f6, f10, f51, f61, f101, f18, hH, q5, q6, q10, q18, q19, h2])) (retW_is hK)
end Go.Aug

/- Flat goals: a goal's own variables. -/
namespace Go.Aug
open Go.Proofs
set_option maxRecDepth 100000
set_option linter.unusedSimpArgs false
attribute [local irreducible] hid andK letA onSome onVar onArr arrOnly onInt onBool onTup idxA ldV ldD addO appTo fillL slA srcK nilQ retW gif sgd sguard svc sops sdops sagain aopO aLoad aStore aBin aUn aConv aLen aIndexAddr aIndex aIndexAddrS aIndexS aSlice aAppend aBuild aBuildSlice aMakeSlice aField aFieldOf aCallOp deepK deepL frzM putE newK newV growV ACall roundQ thenQ inBlockQ sret cnd szs nilC onMap onRow aLookup aMapUpdate aMakeMap
attribute [local go_sem] Int.natCast_zero
def nown : Fl → List Int
 | .mk k x y _ _ _ xs _ => if k = 3 then [x, y] else if k = 4 then [x] else if k = 10 then [x] else if k = 11 then [x] else if k = 5 then x :: xs else if k = 6 then xs else []
set_option maxHeartbeats 2000000 in
theorem own_ok {eb : EbG} (f : Fl) (H : Heap) (K : A → Heap → Prop) (hl : ∀ k x y i c p xs gs, f = .mk k x y i c p xs gs → xs.length ≤ 1048576) (hK : K (.d (.slice ((nown f).map (.int .i64)))) H) :
  ACall Tryd.prog (seatV eb) 131 [.d f.d] H K := by
 obtain ⟨k, x, y, i, c, p, xs, gs⟩ := f
 have hx := hl _ _ _ _ _ _ _ _ rfl
 simp only [nown] at hK
 refine ACall.hp_start ?_
 refine ACall.by mixed fn131 (by simp) ?_
 conv in s131 => cbv
 refine svc_start ?_
 simp -dsimp only [go_sem, gS, Fl.d, Fl.cs]
 refine newK_hp (fun b1 f1 => ?_)
 simp only [off_cons, off_nil] at f1
 simp -dsimp only [go_sem, gS, f1]
 refine gif_split (fun g1 => ?_) (fun g1 => ?_)
 ·have e1 : k = 3 := of_decide_eq_true g1
  simp only [if_pos e1, List.map_cons, List.map_nil] at hK
  simp -dsimp only [go_sem, gS, g1, f1]
  refine newV_hp (fun b11 v11 f11 w11 => ?_)
  simp only [off_cons, off_nil] at f11
  simp -dsimp only [go_sem, gS, f1, f11]
  refine retW_deep ?_
  simp -dsimp only [go_sem, gS, f1, f11]
  exact retW_drop (G := H) (leH_hp0 (by simp only [hpS, eq_self, implies_true, f1, f11])) (retW_is hK)
 ·have e1 : k ≠ 3 := of_decide_eq_false g1
  simp only [if_neg e1] at hK
  simp -dsimp only [go_sem, gS, g1, f1]
  refine gif_split (fun g2 => ?_) (fun g2 => ?_)
  ·have e4 : k = 4 := of_decide_eq_true g2
   simp only [if_pos e4, List.map_cons, List.map_nil] at hK
   simp -dsimp only [go_sem, gS, g2, f1]
   refine newV_hp (fun b18 v18 f18 w18 => ?_)
   simp only [off_cons, off_nil] at f18
   simp -dsimp only [go_sem, gS, f1, f18]
   refine retW_deep ?_
   simp -dsimp only [go_sem, gS, f1, f18]
   exact retW_drop (G := H) (leH_hp0 (by simp only [hpS, eq_self, implies_true, f1, f18])) (retW_is hK)
  ·have e4 : k ≠ 4 := of_decide_eq_false g2
   simp only [if_neg e4] at hK
   simp -dsimp only [go_sem, gS, g2, f1]
   refine gif_split (fun g3 => ?_) (fun g3 => ?_)
   ·have e10 : k = 10 := of_decide_eq_true g3
    simp only [if_pos e10, List.map_cons, List.map_nil] at hK
    simp -dsimp only [go_sem, gS, g3, f1]
    refine newV_hp (fun b18 v18 f18 w18 => ?_)
    simp only [off_cons, off_nil] at f18
    simp -dsimp only [go_sem, gS, f1, f18]
    refine retW_deep ?_
    simp -dsimp only [go_sem, gS, f1, f18]
    exact retW_drop (G := H) (leH_hp0 (by simp only [hpS, eq_self, implies_true, f1, f18])) (retW_is hK)
   ·have e10 : k ≠ 10 := of_decide_eq_false g3
    simp only [if_neg e10] at hK
    simp -dsimp only [go_sem, gS, g3, f1]
    refine gif_split (fun g4 => ?_) (fun g4 => ?_)
    ·have e11 : k = 11 := of_decide_eq_true g4
     simp only [if_pos e11, List.map_cons, List.map_nil] at hK
     simp -dsimp only [go_sem, gS, g4, f1]
     refine newV_hp (fun b18 v18 f18 w18 => ?_)
     simp only [off_cons, off_nil] at f18
     simp -dsimp only [go_sem, gS, f1, f18]
     refine retW_deep ?_
     simp -dsimp only [go_sem, gS, f1, f18]
     exact retW_drop (G := H) (leH_hp0 (by simp only [hpS, eq_self, implies_true, f1, f18])) (retW_is hK)
    ·have e11 : k ≠ 11 := of_decide_eq_false g4
     simp only [if_neg e11] at hK
     simp -dsimp only [go_sem, gS, g4, f1]
     refine gif_split (fun g5 => ?_) (fun g5 => ?_)
     ·have e5 : k = 5 := of_decide_eq_true g5
      simp only [if_pos e5, List.map_cons] at hK
      simp -dsimp only [go_sem, gS, g5, f1]
      refine newV_hp (fun b23 v23 f23 w23 => ?_)
      simp only [off_cons, off_nil] at f23
      simp -dsimp only [go_sem, gS, f1, f23]
      refine andK_split (by omega) ?_
      refine growV_hp (b0 := b23) (by simp only [hpS, eq_self, implies_true, f1, f23]) (by simp only [hpS, eq_self, implies_true, f1, f23]) (fun b26 v26 f26 w26 => ?_)
      simp only [delL_cons, delL_nil, eqn_self, cnd_true, cnd_false, off_cons, off_nil, f1, f23] at f26
      simp -dsimp only [go_sem, gS, f1, f23, f26, List.cons_append, List.nil_append]
      refine retW_deep ?_
      simp -dsimp only [go_sem, gS, f1, f23, f26]
      exact retW_drop (G := H) (leH_hp0 (by simp only [hpS, eq_self, implies_true, f1, f26])) (retW_is hK)
     ·have e5 : k ≠ 5 := of_decide_eq_false g5
      simp only [if_neg e5] at hK
      simp -dsimp only [go_sem, gS, g5, f1]
      refine gif_split (fun g6 => ?_) (fun g6 => ?_)
      ·have e6 : k = 6 := of_decide_eq_true g6
       simp only [if_pos e6] at hK
       simp -dsimp only [go_sem, gS, g6, f1]
       exact retW_drop (G := H) (leH_hp0 (by simp only [hpS, eq_self, implies_true, f1])) (retW_is hK)
      ·have e6 : k ≠ 6 := of_decide_eq_false g6
       simp only [if_neg e6, List.map_nil] at hK
       simp -dsimp only [go_sem, gS, g6, f1]
       refine retW_deep ?_
       simp only [deepK_nils]
       exact retW_drop (G := H) (leH_hp0 (by simp only [hpS, eq_self, implies_true, f1])) (retW_is hK)
end Go.Aug

/- A bound on what is read: each node takes a place. -/
namespace Go.Aug
open Go.Proofs
set_option maxRecDepth 100000
set_option linter.unusedSimpArgs false
theorem nodess_append : ∀ (xs ys : List Tm), Tm.nodess (xs ++ ys) = Tm.nodess xs + Tm.nodess ys
 | [], ys => by simp [Tm.nodess]
 | x :: xs, ys => by simp only [List.cons_append, Tm.nodess, nodess_append xs ys]; omega
theorem rargs_nodes {p : RdS → Tm × RdS} {l : List Tok} (hp : ∀ s, (p s).1.nodes + s.pos ≤ 1 + (p s).2.pos) : ∀ (k : Nat) (xs : List Tm) (s : RdS), Tm.nodess (rargs p l k xs s).1 + s.pos ≤ Tm.nodess xs + (rargs p l k xs s).2.pos
 | 0, xs, s => Nat.le_refl _
 | k + 1, xs, s => by
  simp only [rargs]
  split
  ·split
   ·rename_i h1 h2
    have hm := (rmore_true h2).2.1
    have h3 := hp (rmore l xs.length s).2
    have h4 := rargs_nodes (l := l) hp k (xs ++ [(p (rmore l xs.length s).2).1]) (p (rmore l xs.length s).2).2
    rw [nodess_append] at h4
    simp only [Tm.nodess] at h4
    omega
   ·have := rmore_ge l xs.length s; show Tm.nodess xs + s.pos ≤ Tm.nodess xs + (rmore l xs.length s).2.pos; omega
  ·exact Nat.le_refl _
theorem rterm_nodes {l : List Tok} : ∀ (f n : Nat) (s : RdS), (rterm f l n s).1.nodes + s.pos ≤ 1 + (rterm f l n s).2.pos
 | 0, _, s => Nat.le_refl _
 | f + 1, n, s => by
  have hn := rnest_pos l n s
  have hw := rword_ge l 1 (rnest l n s)
  have h1 := rargs_nodes (l := l) (rterm_nodes (l := l) f (n + 1)) 10 [] (rword l 1 (rnest l n s)).2
  simp only [Tm.nodess] at h1
  simp only [rterm]
  split
  ·split
   ·simp only [Tm.nodes, Tm.nodess]; omega
   ·split
    ·simp only [Tm.nodes, Tm.nodess]; omega
    ·simp only [Tm.nodes]; omega
  ·simp only [Tm.nodes]; omega
theorem gnodess_append : ∀ (xs ys : List Gl), Gl.nodess (xs ++ ys) = Gl.nodess xs + Gl.nodess ys
 | [], ys => by simp [Gl.nodess]
 | x :: xs, ys => by simp only [List.cons_append, Gl.nodess, gnodess_append xs ys]; omega
theorem gnodes_none (k : Int) (n : ByteArray) (xs : List Tm) (gs : List Gl) : (Gl.mk k .none .none n xs gs).nodes = 3 + Tm.nodess xs + Gl.nodess gs := by simp only [Gl.nodes, Tm.none, Tm.nodes, Tm.nodess]
theorem headD_nodes : ∀ gs : List Gl, (gs.headD default).nodes ≤ 3 + Gl.nodess gs
 | [] => by show (Gl.mk 0 .none .none ⟨#[]⟩ [] []).nodes ≤ _; rw [gnodes_none]; simp [Tm.nodess, Gl.nodess]
 | g :: gs => by simp only [List.headD_cons, Gl.nodess]; omega
theorem headD_nodes1 {gs : List Gl} (h : gs ≠ []) : (gs.headD default).nodes ≤ Gl.nodess gs := by
 cases gs with
 | nil => exact absurd rfl h
 | cons g gs => simp only [List.headD_cons, Gl.nodess]; omega
theorem rands_nodes {p : RdS → Gl × RdS} {l : List Tok} (hp : ∀ s, (p s).1.nodes + 6 * s.pos ≤ 3 + 6 * (p s).2.pos) : ∀ (k : Nat) (gs : List Gl) (s : RdS), Gl.nodess (rands p l k gs s).1 + 6 * s.pos ≤ Gl.nodess gs + 6 * (rands p l k gs s).2.pos
 | 0, gs, s => Nat.le_refl _
 | k + 1, gs, s => by
  simp only [rands]
  split
  ·rename_i h
   have hm := (rgot_true h).2.1
   have h3 := hp (rgot l kComma s).2
   have h4 := rands_nodes (l := l) hp k (gs ++ [(p (rgot l kComma s).2).1]) (p (rgot l kComma s).2).2
   rw [gnodess_append] at h4
   simp only [Gl.nodess] at h4
   omega
  ·exact Nat.le_refl _
theorem rands_ne {p : RdS → Gl × RdS} {l : List Tok} : ∀ (k : Nat) (gs : List Gl) (s : RdS), gs ≠ [] → (rands p l k gs s).1 ≠ []
 | 0, gs, s, h => h
 | k + 1, gs, s, h => by
  simp only [rands]
  split
  ·exact rands_ne k _ _ (by simp)
  ·exact h
theorem rway_nodes {p : RdS → Gl × RdS} {l : List Tok} (hp : ∀ s, (p s).1.nodes + 6 * s.pos ≤ 3 + 6 * (p s).2.pos) (s : RdS) : (rway p l s).1.nodes + 6 * s.pos ≤ 6 + 6 * (rway p l s).2.pos := by
 have h1 := rands_nodes (l := l) hp l.length [(p s).1] (p s).2
 have h2 := hp s
 simp only [Gl.nodess] at h1
 simp only [rway, allOf]
 split
 ·rw [gnodes_none]; simp only [Tm.nodess]; omega
 ·have := headD_nodes1 (rands_ne (p := p) (l := l) l.length [(p s).1] (p s).2 (by simp)); omega
theorem rors_nodes {p : RdS → Gl × RdS} {l : List Tok} (hp : ∀ s, (p s).1.nodes + 6 * s.pos ≤ 3 + 6 * (p s).2.pos) : ∀ (k : Nat) (os : List Gl) (s : RdS), Gl.nodess (rors p l k os s).1 + 6 * s.pos ≤ Gl.nodess os + 6 + 6 * (rors p l k os s).2.pos
 | 0, os, s => by simp only [rors]; omega
 | k + 1, os, s => by
  have hw := rway_nodes (l := l) hp s
  simp only [rors]
  split
  ·split
   ·rename_i h
    have hm := (rgot_true h).2.1
    have h4 := rors_nodes (l := l) hp k (os ++ [(rway p l s).1]) (rgot l kSemi (rway p l s).2).2
    rw [gnodess_append] at h4
    simp only [Gl.nodess] at h4
    omega
   ·show Gl.nodess (os ++ [(rway p l s).1]) + 6 * s.pos ≤ Gl.nodess os + 6 + 6 * (rway p l s).2.pos
    rw [gnodess_append]
    simp only [Gl.nodess]; omega
  ·show Gl.nodess os + 6 * s.pos ≤ Gl.nodess os + 6 + 6 * s.pos
   omega
theorem rgoalW_nodes {p : RdS → Gl × RdS} {l : List Tok} (hp : ∀ s, (p s).1.nodes + 6 * s.pos ≤ 3 + 6 * (p s).2.pos) (s : RdS) : (rgoalW p l s).1.nodes + 6 * s.pos ≤ 9 + 6 * (rgoalW p l s).2.pos := by
 have h := rors_nodes (l := l) hp (l.length + 1) [] s
 simp only [Gl.nodess] at h
 simp only [rgoalW, anyOf]
 split
 ·have := headD_nodes (rors p l (l.length + 1) [] s).1; omega
 ·rw [gnodes_none]; simp only [Tm.nodess]; omega
theorem Tm.nodes_args (t : Tm) : t.nodes = 1 + Tm.nodess t.args := by cases t; rfl
theorem rprim_nodes {l : List Tok} : ∀ (f n : Nat) (s : RdS), (rprim f l n s).1.nodes + 6 * s.pos ≤ 3 + 6 * (rprim f l n s).2.pos
 | 0, _, s => by show (Gl.mk 0 .none .none ⟨#[]⟩ [] []).nodes + _ ≤ _; rw [gnodes_none]; simp only [Tm.nodess, Gl.nodess]; exact Nat.le_refl _
 | f + 1, n, s0 => by
  have hn := rnest_pos l n s0
  have ih := rprim_nodes (l := l) f (n + 1)
  simp only [rprim]
  generalize rnest l n s0 = s at hn ⊢
  split
  ·rename_i h; have hm := (rgot_true h).2.1; simp only [gnodes_none, Tm.nodess, Gl.nodess]; omega
  split
  ·rename_i h; have hm := (rgot_true h).2.1; simp only [gnodes_none, Tm.nodess, Gl.nodess]; omega
  split
  ·rename_i h; have hm := (rgot_true h).2.1; have h1 := ih (rgot l kNot s).2; simp only [gnodes_none, Tm.nodess, Gl.nodess]; omega
  split
  ·rename_i h; have hm := (rgot_true h).2.1; have h1 := rterm_nodes (l := l) f (n + 1) (rgot l kThrow s).2; simp only [Gl.nodes, Tm.none, Tm.nodes, Tm.nodess, Gl.nodess]; omega
  split
  ·rename_i h
   have hm := (rgot_true h).2.1
   have h1 := ih (rgot l kTry s).2
   have h2 := rneed_ge l kCatch (rprim f l (n + 1) (rgot l kTry s).2).2
   have h3 := rword_ge l 2 (rneed l kCatch (rprim f l (n + 1) (rgot l kTry s).2).2)
   have h4 := rneed_ge l kThen (rword l 2 (rneed l kCatch (rprim f l (n + 1) (rgot l kTry s).2).2)).2
   have h5 := ih (rneed l kThen (rword l 2 (rneed l kCatch (rprim f l (n + 1) (rgot l kTry s).2).2)).2)
   simp only [rtry, gnodes_none, Tm.nodess, Gl.nodess]; omega
  split
  ·rename_i h
   have hm := (rgot_true h).2.1
   have h1 := rgoalW_nodes (l := l) ih (rgot l kOpen s).2
   have h2 := rneed_ge l kClose (rgoalW (rprim f l (n + 1)) l (rgot l kOpen s).2).2
   show (rgoalW (rprim f l (n + 1)) l (rgot l kOpen s).2).1.nodes + _ ≤ 3 + 6 * (rneed l kClose (rgoalW (rprim f l (n + 1)) l (rgot l kOpen s).2).2).pos
   omega
  ·have h1 := rterm_nodes (l := l) f (n + 1) s
   have h7 := (rterm f l (n + 1) s).1.nodes_pos
   simp only [rcall]
   split
   ·rename_i h
    have hm := (rgot_true h).2.1
    have h2 := rterm_nodes (l := l) f (n + 1) (rgot l kEq (rterm f l (n + 1) s).2).2
    have h5 := (rterm f l (n + 1) s).1.nodes_pos
    have h6 := (rterm f l (n + 1) (rgot l kEq (rterm f l (n + 1) s).2).2).1.nodes_pos
    simp only [Gl.nodes, Tm.nodess, Gl.nodess]; omega
   ·have h3 := Tm.nodes_args (rterm f l (n + 1) s).1
    simp only [gnodes_none, Gl.nodess]
    split
    ·omega
    ·rw [rfail_pos]; omega
theorem rgoal_nodes {l : List Tok} (f n : Nat) (s : RdS) : (rgoal f l n s).1.nodes + 6 * s.pos ≤ 9 + 6 * (rgoal f l n s).2.pos := rgoalW_nodes (fun s => rprim_nodes f n s) s
theorem ritem_nodes {l : List Tok} (s : RdS) : (ritem l s).1.nodes + 6 * s.pos ≤ 9 + 6 * (ritem l s).2.pos := by
 have hs := (ritem_steps l).ge s
 have z : ∀ it : It, it.args = [] → it.body = .mk 0 .none .none ⟨#[]⟩ [] [] → it.nodes = 3 := fun it h1 h2 => by rw [It.nodes, h1, h2]; rfl
 unfold ritem at hs ⊢
 split
 ·rename_i h; rw [if_pos h] at hs; rw [z _ rfl rfl]; omega
 split
 ·rename_i h0 h; rw [if_neg h0, if_pos h] at hs; rw [z _ rfl rfl]; omega
 split
 ·rename_i h0 h1 h; rw [if_neg h0, if_neg h1, if_pos h] at hs; rw [z _ rfl rfl]; omega
 ·have hw := rword_ge l 1 s
  have h1 := rargs_nodes (l := l) (rterm_nodes (l := l) 66 1) 10 [] (rword l 1 s).2
  simp only [Tm.nodess] at h1
  simp only [ritClause]
  split
  ·rename_i h
   have hm := (rgot_true h).2.1
   have h2 := rgoal_nodes (l := l) 66 1 (rgot l kIf (rargs (rterm 66 l 1) l 10 [] (rword l 1 s).2).2).2
   simp only [It.nodes]; omega
  ·simp only [It.nodes, gnodes_none, Tm.nodess, Gl.nodess]; omega
end Go.Aug

/- What a text's items and index are: bounds for what Flatten asks. -/
namespace Go.Aug
open Go.Proofs
set_option maxRecDepth 100000
set_option linter.unusedSimpArgs false
theorem ritem_few {l : List Tok} (hl : l.length ≤ 16384) {s : RdS} (hs : s.pos ≤ l.length) : (ritem l s).1.nodes ≤ 98313 := by
 have h1 := ritem_nodes (l := l) s
 have h2 := (ritem_steps l).le s hs
 omega
theorem ritems_few {l : List Tok} (hl : l.length ≤ 16384) : ∀ (k : Nat) (is : List It) (s : RdS), s.pos ≤ l.length → (∀ x ∈ is, x.nodes ≤ 98313) → ∀ x ∈ (ritems l k is s).1, x.nodes ≤ 98313
 | 0, is, s, _, h => h
 | k + 1, is, s, hs, h => by
  simp only [ritems]
  split
  ·exact h
  split
  ·exact h
  ·refine ritems_few hl k _ _ (rneed_le ((ritem_steps l).le _ hs)) fun x hx => ?_
   rcases List.mem_append.1 hx with hx | hx
   ·exact h x hx
   ·rw [List.mem_singleton.1 hx]; exact ritem_few hl hs
theorem rtext_few (s : ByteArray) : ∀ x ∈ (rtext s).1, x.nodes ≤ 98313 := by
 unfold rtext rsource
 simp only
 split
 ·simp
 ·exact ritems_few (rlex_len s) _ _ _ (Nat.zero_le _) (by simp)
theorem sumNodes_le {m : Nat} : ∀ {ls : List It}, (∀ it ∈ ls, it.nodes ≤ m) → sumNodes ls ≤ ls.length * m
 | [], _ => by simp [sumNodes]
 | it :: ls, h => by
  have h1 := h it (.head _)
  have h2 := sumNodes_le (fun x hx => h x (.tail _ hx))
  simp only [sumNodes, List.length_cons, Nat.succ_mul]; omega
theorem clsFrom_len (q : Ky) : ∀ (j : Nat) (l : List It), (clsFrom q j l).length ≤ l.length
 | _, [] => Nat.le_refl _
 | j, y :: ys => by
  have := clsFrom_len q (j + 1) ys
  simp only [clsFrom]
  split
  ·simp only [List.length_cons]; omega
  ·simp only [List.length_cons]; omega
theorem clsFrom_range (q : Ky) : ∀ (j : Nat) (l : List It), ∀ c ∈ clsFrom q j l, (j : Int) ≤ c ∧ c < (j : Int) + l.length
 | _, [], _, h => by simp [clsFrom] at h
 | j, y :: ys, c, h => by
  simp only [clsFrom] at h
  have ih := clsFrom_range q (j + 1) ys c
  simp only [List.length_cons]
  split at h
  ·rcases List.mem_cons.1 h with rfl | h
   ·omega
   ·have := ih h; omega
  ·have := ih h; omega
/-- The index of well named items, in one. -/
def tysOf (l : List It) : List It := l.filter fun it => decide (it.kind = 1)
def psOf (l : List It) : List It := l.filter fun it => decide (it.kind = 2)
def crsOf (l : List It) : List Cr := (tysOf l).flatMap fun it => ctsFrom it 0 it.ctors
def wellFrom (l : List It) : Nat → List It → Bool
 | _, [] => true
 | i, it :: rest => rwell l i it && wellFrom l (i + 1) rest
theorem rfrom_eq (l : List It) : ∀ (i : Nat) (rest : List It) (x : Ix), rfrom l i rest x = if wellFrom l i rest = true then some ⟨x.types ++ tysOf rest, x.ctors ++ crsOf rest, x.preds ++ (psOf rest).map (prOf l)⟩ else none
 | _, [], x => by simp [rfrom, wellFrom, tysOf, psOf, crsOf]
 | i, it :: rest, x => by
  have hwf : wellFrom l i (it :: rest) = (rwell l i it && wellFrom l (i + 1) rest) := rfl
  rw [rfrom]
  by_cases hw : rwell l i it = true
  ·have e : wellFrom l i (it :: rest) = wellFrom l (i + 1) rest := by rw [hwf, hw, Bool.true_and]
   rw [if_pos hw, rfrom_eq l (i + 1) rest, e]
   congr 2
   simp only [rstep]
   by_cases h1 : it.kind = 1
   ·have h2 : ¬ it.kind = 2 := by omega
    simp [h1, tysOf, psOf, crsOf]
   ·by_cases h2 : it.kind = 2
    ·simp [h2, tysOf, psOf, crsOf]
    ·simp [h1, h2, tysOf, psOf, crsOf]
  ·rw [if_neg hw]
   exact (if_neg (by rw [hwf, Bool.and_eq_true]; exact fun h => hw h.1)).symm
theorem rresolve_eq (l : List It) : rresolve l = if wellFrom l 0 l = true then some ⟨tysOf l, crsOf l, builtinsL ++ (psOf l).map (prOf l)⟩ else none := by
 rw [rresolve, rfrom_eq]; simp
theorem wellFrom_all {l : List It} : ∀ {i : Nat} {rest : List It}, wellFrom l i rest = true → ∀ it ∈ rest, ∃ j, rwell l j it = true
 | _, [], _, _, h => by simp at h
 | i, it :: rest, hw, y, h => by
  simp only [wellFrom, Bool.and_eq_true] at hw
  rcases List.mem_cons.1 h with rfl | h
  ·exact ⟨i, hw.1⟩
  ·exact wellFrom_all hw.2 y h
theorem nodup_of {α β : Type} [DecidableEq β] (f : α → β) : ∀ {l : List α}, (∀ a ∈ l, l.countP (fun b => decide (f b = f a)) ≤ 1) → (l.map f).Nodup
 | [], _ => by simp
 | a :: l, h => by
  simp only [List.map_cons, List.nodup_cons]
  refine ⟨fun hm => ?_, nodup_of f fun b hb => Nat.le_trans ?_ (h b (.tail _ hb))⟩
  ·obtain ⟨b, hb, e⟩ := List.mem_map.1 hm
   have h1 := h a (.head _)
   have h2 : 0 < l.countP (fun b => decide (f b = f a)) := List.countP_pos_iff.2 ⟨b, hb, by simp [e]⟩
   simp only [List.countP_cons, decide_true, if_true] at h1
   omega
  ·simp only [List.countP_cons]; omega
theorem wellPred_of {l : List It} {i : Nat} {it : It} (h : rwell l i it = true) (h2 : it.kind = 2) : isBuiltin (keyOf it) = false ∧ rcount l 2 (keyOf it) = 1 ∧ rcount l 3 (keyOf it) ≠ 0 ∧ tyOks l false [] it.types = true := by
 have h1 : ¬ it.kind = 1 := by omega
 rw [rwell, if_neg h1, if_pos h2, wellPred] at h
 simp only [Bool.and_eq_true, Bool.not_eq_true', decide_eq_true_eq, decide_eq_false_iff_not] at h
 exact ⟨h.1.1.1, by omega, by omega, h.2⟩
theorem rcount_psOf (l : List It) (q : Ky) : rcount l 2 q = (psOf l).countP fun it => decide (keyOf it = q) := by
 rw [rcount, psOf, List.countP_filter]
 refine List.countP_congr fun it _ => ?_
 simp [isOf, Ky.eqb_iff, and_comm]
theorem isBuiltin_mem {q : Ky} : isBuiltin q = true ↔ q ∈ builtinsL.map Pr.key := by
 rw [isBuiltin, List.any_eq_true, List.mem_map]
 constructor
 ·rintro ⟨p, hp, e⟩; exact ⟨p, hp, (Ky.eqb_iff _ _).1 e⟩
 ·rintro ⟨p, hp, e⟩; exact ⟨p, hp, (Ky.eqb_iff _ _).2 e⟩
/-- What an index of well named items is. -/
structure IxOf (l : List It) (x : Ix) : Prop where
 well : wellFrom l 0 l = true
 types : x.types = tysOf l
 ctors : x.ctors = crsOf l
 preds : x.preds = builtinsL ++ (psOf l).map (prOf l)
theorem rresolve_of {l : List It} {x : Ix} (h : rresolve l = some x) : IxOf l x := by
 rw [rresolve_eq] at h
 split at h
 ·rename_i hw; cases h; exact ⟨hw, rfl, rfl, rfl⟩
 ·cases h
theorem IxOf.nodup {l : List It} {x : Ix} (h : IxOf l x) : (x.preds.map Pr.key).Nodup := by
 have e : ((psOf l).map (prOf l)).map Pr.key = (psOf l).map keyOf := by simp [prOf]
 have hp : ∀ it ∈ psOf l, isBuiltin (keyOf it) = false ∧ rcount l 2 (keyOf it) = 1 := fun it hit => by
  have hm := List.mem_filter.1 hit
  obtain ⟨j, hj⟩ := wellFrom_all h.well it hm.1
  have := wellPred_of hj (by simpa using hm.2)
  exact ⟨this.1, this.2.1⟩
 rw [h.preds, List.map_append, e, List.nodup_append]
 refine ⟨by decide, nodup_of keyOf fun it hit => ?_, fun a ha b hb => ?_⟩
 ·rw [← rcount_psOf, (hp it hit).2]; exact Nat.le_refl _
 ·obtain ⟨it, hit, rfl⟩ := List.mem_map.1 hb
  rintro rfl
  have := (hp it hit).1
  rw [isBuiltin_mem.2 ha] at this
  cases this
theorem psOf_len (l : List It) : (psOf l).length ≤ l.length := List.length_filter_le _ _
theorem IxOf.few {l : List It} {x : Ix} (h : IxOf l x) : x.preds.length ≤ 7 + l.length := by
 have := psOf_len l
 rw [h.preds, List.length_append, List.length_map]
 show 7 + _ ≤ _
 omega
/-- What an index says of a predicate. -/
structure PrOk (l : List It) (p : Pr) : Prop where
 ar : 0 ≤ p.key.ar ∧ p.key.ar ≤ 32768
 few : p.clauses.length ≤ l.length
 range : ∀ c ∈ p.clauses, 0 ≤ c ∧ c < l.length
theorem keyOf_small {it : It} (h : it.small) : 0 ≤ (keyOf it).ar ∧ (keyOf it).ar ≤ 32768 := by
 have h1 := h.types.1; have h2 := h.ways; have h3 := h.args.1
 unfold keyOf
 repeat' split
 all_goals (refine ⟨Int.natCast_nonneg _, ?_⟩; simp only; omega)
theorem IxOf.ok {l : List It} {x : Ix} (h : IxOf l x) (hs : ∀ it ∈ l, it.small) : ∀ p ∈ x.preds, PrOk l p := by
 intro p hp
 rw [h.preds] at hp
 rcases List.mem_append.1 hp with hp | hp
 ·have hb : ∀ p ∈ builtinsL, (0 ≤ p.key.ar ∧ p.key.ar ≤ 32768) ∧ p.clauses = [] := by
   simp only [builtinsL, List.mem_cons, List.not_mem_nil, or_false]
   rintro p (rfl | rfl | rfl | rfl | rfl | rfl | rfl)
   all_goals exact ⟨by decide, rfl⟩
  have := hb p hp
  exact ⟨this.1, by rw [this.2]; simp, by rw [this.2]; simp⟩
 ·obtain ⟨it, hit, rfl⟩ := List.mem_map.1 hp
  have hm := (List.mem_filter.1 hit).1
  refine ⟨keyOf_small (hs it hm), clsFrom_len _ _ _, fun c hc => ?_⟩
  have := clsFrom_range _ _ _ c hc
  omega
theorem pfind_at : ∀ {L : List Pr} {i : Nat} {p : Pr}, (L.map Pr.key).Nodup → L[i]? = some p → pfind L p.key = some p
 | [], _, _, _, h => by simp at h
 | x :: xs, 0, p, _, h => by
  simp only [List.getElem?_cons_zero, Option.some.injEq] at h
  subst h
  simp [pfind, (Ky.eqb_iff _ _).2 rfl]
 | x :: xs, i + 1, p, hn, h => by
  simp only [List.map_cons, List.nodup_cons] at hn
  simp only [List.getElem?_cons_succ] at h
  have hne : Ky.eqb x.key p.key = false := by
   rw [Bool.eq_false_iff]
   intro e
   exact hn.1 (List.mem_map.2 ⟨p, List.mem_of_getElem? h, ((Ky.eqb_iff _ _).1 e).symm⟩)
  have ih := pfind_at hn.2 h
  simp only [pfind, List.find?_cons, hne] at ih ⊢
  exact ih
theorem pfind_mem {L : List Pr} {q : Ky} {p : Pr} (h : pfind L q = some p) : p ∈ L ∧ p.key = q :=
 ⟨List.mem_of_find?_eq_some h, (Ky.eqb_iff _ _).1 (by simpa using List.find?_some h)⟩
/-- What Flatten asks, of a text's items and index. -/
theorem named_flat {s : ByteArray} {x : Ix} (h : (rnamed s).2 = some x) : (rnamed s).1 = (rtext s).1 ∧ IxOf (rtext s).1 x := by
 unfold rnamed at h ⊢
 split
 ·rename_i e; rw [if_pos e] at h; cases h
 ·rename_i e; rw [if_neg e] at h; exact ⟨rfl, rresolve_of h⟩
theorem sum_few {l : List It} (hl : l.length ≤ 512) (hf : ∀ x ∈ l, x.nodes ≤ 98313) {cs : List Int} (hc : cs.length ≤ l.length) : sumNodes (atIts l cs) ≤ 549755813888 := by
 refine Nat.le_trans (sumNodes_le (m := 98313) fun it hit => ?_) ?_
 ·obtain ⟨c, _, rfl⟩ := List.mem_map.1 hit
  rw [List.getD_eq_getElem?_getD]
  cases hg : l[c.toNat]? with
  | none => show (default : It).nodes ≤ _; decide
  | some y => exact hf y (List.mem_of_getElem? hg)
 ·have : (atIts l cs).length ≤ 512 := by simp only [atIts, List.length_map]; omega
  exact Nat.le_trans (Nat.mul_le_mul_right _ this) (by decide)
end Go.Aug

/- Without its last clause: what Flatten says of a predicate. -/
namespace Go.Aug
open Go.Proofs
set_option maxRecDepth 100000
set_option linter.unusedSimpArgs false
end Go.Aug

/- Flat goals: which numbers stand in a predicate's body, and how long its rows are. -/
namespace Go.Aug
open Go.Proofs
set_option maxRecDepth 100000
set_option linter.unusedSimpArgs false
mutual
def Fl.okG (A : Int → Prop) : Fl → Prop
 | .mk k x y i c p xs gs => (∀ v ∈ nown (.mk k x y i c p xs gs), A v) ∧ xs.length ≤ 32768 ∧ gs.length ≤ 1073741824 ∧ Fl.okGs A gs
def Fl.okGs (A : Int → Prop) : List Fl → Prop
 | [] => True
 | g :: gs => g.okG A ∧ Fl.okGs A gs
end
mutual
theorem Fl.okG.mono {A B : Int → Prop} (h : ∀ v, A v → B v) : ∀ {f : Fl}, f.okG A → f.okG B
 | .mk _ _ _ _ _ _ _ _, ⟨h1, h2, h3, h4⟩ => ⟨fun v hv => h v (h1 v hv), h2, h3, Fl.okGs.mono h h4⟩
theorem Fl.okGs.mono {A B : Int → Prop} (h : ∀ v, A v → B v) : ∀ {gs : List Fl}, Fl.okGs A gs → Fl.okGs B gs
 | [], _ => trivial
 | _ :: _, ⟨h1, h2⟩ => ⟨h1.mono h, Fl.okGs.mono h h2⟩
end
theorem Fl.okGs_append {A : Int → Prop} : ∀ {xs ys : List Fl}, Fl.okGs A (xs ++ ys) ↔ Fl.okGs A xs ∧ Fl.okGs A ys
 | [], ys => by simp [Fl.okGs]
 | x :: xs, ys => by simp only [List.cons_append, Fl.okGs, Fl.okGs_append, and_assoc]
theorem Fl.okGs_iff {A : Int → Prop} : ∀ {gs : List Fl}, Fl.okGs A gs ↔ ∀ g ∈ gs, g.okG A
 | [] => by simp [Fl.okGs]
 | g :: gs => by simp only [Fl.okGs, Fl.okGs_iff, List.forall_mem_cons]
/-- A clause's numbers: those of arguments, and those from the clause's first to what is next. -/
def okI (ar st n : Nat) (v : Int) : Prop := ∃ k : Nat, v = (k : Int) ∧ (k < ar ∨ (st ≤ k ∧ k < n))
theorem okI.mono {ar st n m : Nat} (h : n ≤ m) (v : Int) : okI ar st n v → okI ar st m v
 | ⟨k, e, h'⟩ => ⟨k, e, h'.imp id fun ⟨a, b⟩ => ⟨a, Nat.lt_of_lt_of_le b h⟩⟩
structure NSok (ar st : Nat) (s : NS) : Prop where
 ge : st ≤ s.next
 nm : ∀ p ∈ s.names, okI ar st s.next (p.2 : Int)
theorem nfind_mem {n : ByteArray} {v : Nat} : ∀ {m : List (ByteArray × Nat)}, nfind m n = some v → ∃ p ∈ m, p.2 = v
 | [], h => by simp [nfind] at h
 | (a, w) :: m, h => by
  simp only [nfind] at h
  split at h
  ·cases h; exact ⟨_, .head _, rfl⟩
  ·obtain ⟨p, hp, e⟩ := nfind_mem h; exact ⟨p, .tail _ hp, e⟩
theorem nput_mem {n : ByteArray} {v : Nat} : ∀ {m : List (ByteArray × Nat)} {p : ByteArray × Nat}, p ∈ nput m n v → p ∈ m ∨ p.2 = v
 | [], p, h => by simp only [nput, List.mem_singleton] at h; exact .inr (by rw [h])
 | (a, w) :: m, p, h => by
  simp only [nput] at h
  split at h
  ·rcases List.mem_cons.1 h with rfl | h
   ·exact .inr rfl
   ·exact .inl (.tail _ h)
  ·rcases List.mem_cons.1 h with rfl | h
   ·exact .inl (.head _)
   ·exact (nput_mem h).imp (.tail _) id
theorem NSok.put {ar st : Nat} {s : NS} (h : NSok ar st s) {n : ByteArray} {v : Nat} (hv : okI ar st s.next (v : Int)) : NSok ar st ⟨s.next, nput s.names n v⟩ :=
 ⟨h.ge, fun p hp => (nput_mem hp).elim (h.nm p) fun e => by rw [e]; exact hv⟩
theorem NSok.fresh {ar st : Nat} {s : NS} (h : NSok ar st s) : okI ar st (nfresh s).2.next ((nfresh s).1 : Int) ∧ NSok ar st (nfresh s).2 :=
 ⟨⟨_, rfl, .inr ⟨h.ge, Nat.lt_succ_self _⟩⟩, ⟨Nat.le_succ_of_le h.ge, fun p hp => (h.nm p hp).mono (Nat.le_succ _)⟩⟩
theorem nnumber_in {ar st : Nat} {s : NS} (h : NSok ar st s) (n : ByteArray) : okI ar st (nnumber n s).2.next ((nnumber n s).1 : Int) ∧ NSok ar st (nnumber n s).2 := by
 unfold nnumber
 split
 ·exact h.fresh
 ·split
  ·rename_i v hv; obtain ⟨p, hp, rfl⟩ := nfind_mem hv; exact ⟨h.nm p hp, h⟩
  ·exact ⟨h.fresh.1, h.fresh.2.put h.fresh.1⟩
theorem nargs_in {ar st : Nat} : ∀ (ts : List Tm) {s : NS}, NSok ar st s → (∀ v ∈ (nargs ts s).1, okI ar st (nargs ts s).2.next (v : Int)) ∧ NSok ar st (nargs ts s).2
 | [], s, h => ⟨by simp [nargs], h⟩
 | .mk k n _ _ :: ts, s, h => by
  have key : ∀ p : Nat × NS, okI ar st p.2.next (p.1 : Int) ∧ NSok ar st p.2 → (∀ v ∈ p.1 :: (nargs ts p.2).1, okI ar st (nargs ts p.2).2.next (v : Int)) ∧ NSok ar st (nargs ts p.2).2 := fun p hp => by
   have ih := nargs_in ts hp.2
   refine ⟨fun v hv => ?_, ih.2⟩
   rcases List.mem_cons.1 hv with rfl | hv
   ·exact hp.1.mono (nargs_next ts p.2).1
   ·exact ih.1 v hv
  simp only [nargs]
  split
  ·exact key _ (nnumber_in h n)
  ·exact key _ h.fresh
theorem okG_leaf {A : Int → Prop} {k x y i : Int} {c p : Ky} {xs : List Int} (h : ∀ v ∈ nown (.mk k x y i c p xs []), A v) (hx : xs.length ≤ 32768) : (Fl.mk k x y i c p xs []).okG A := ⟨h, hx, Nat.zero_le _, trivial⟩
mutual
theorem nunify_in {ar st : Nat} (x : Nat) : ∀ (t : Tm) {s : NS}, t.small → NSok ar st s → okI ar st s.next (x : Int) → Fl.okGs (okI ar st (nunify x t s).2.next) (nunify x t s).1 ∧ NSok ar st (nunify x t s).2
 | .mk k n i ts, s, ht, h, hx => by
  simp only [nunify]
  split
  ·split
   ·exact ⟨trivial, h⟩
   ·split
    ·rename_i v hv
     obtain ⟨p, hp, rfl⟩ := nfind_mem hv
     refine ⟨⟨okG_leaf ?_ (Nat.zero_le _), trivial⟩, h⟩
     show ∀ v ∈ [(x : Int), (p.2 : Int)], _
     intro v hv
     rcases List.mem_cons.1 hv with rfl | hv
     ·exact hx
     ·rw [List.mem_singleton.1 hv]; exact h.nm p hp
    ·exact ⟨trivial, h.put hx⟩
  ·split
   ·refine ⟨⟨okG_leaf ?_ (Nat.zero_le _), trivial⟩, h⟩
    show ∀ v ∈ [(x : Int)], _
    intro v hv; rw [List.mem_singleton.1 hv]; exact hx
   ·have ha := nargs_in (ar := ar) (st := st) ts h
    have hs := nargs_next ts s
    have ih := nunifys_in (ar := ar) (st := st) (nargs ts s).1 ts ht.2 ha.2 ha.1
    have hs2 := (nunifys_size (nargs ts s).1 ts (nargs ts s).2).2.1
    refine ⟨⟨okG_leaf ?_ ?_, ih.1⟩, ih.2⟩
    ·show ∀ v ∈ (x : Int) :: (nargs ts s).1.map Int.ofNat, _
     intro v hv
     rcases List.mem_cons.1 hv with rfl | hv
     ·exact hx.mono (Nat.le_trans hs.1 hs2)
     ·obtain ⟨u, hu, rfl⟩ := List.mem_map.1 hv
      exact (ha.1 u hu).mono hs2
    ·rw [List.length_map, nargs_len]; exact ht.1
theorem nunifys_in {ar st : Nat} : ∀ (vs : List Nat) (ts : List Tm) {s : NS}, Tm.smalls ts → NSok ar st s → (∀ v ∈ vs, okI ar st s.next (v : Int)) → Fl.okGs (okI ar st (nunifys vs ts s).2.next) (nunifys vs ts s).1 ∧ NSok ar st (nunifys vs ts s).2
 | a :: vs, .mk k n i ts :: rest, s, ht, h, hv => by
  simp only [nunifys]
  split
  ·exact nunifys_in vs rest ht.2 h fun v h' => hv v (.tail _ h')
  ·have h1 := nunify_in (ar := ar) (st := st) a (.mk k n i ts) ht.1 h (hv a (.head _))
   have hs := nunify_size a (.mk k n i ts) s
   have h2 := nunifys_in (ar := ar) (st := st) vs rest ht.2 h1.2 fun v h' => (hv v (.tail _ h')).mono hs.2.1
   have hs2 := nunifys_size vs rest (nunify a (.mk k n i ts) s).2
   exact ⟨Fl.okGs_append.2 ⟨Fl.okGs.mono (okI.mono hs2.2.1) h1.1, h2.1⟩, h2.2⟩
 | [], ts, s, _, h, _ => by simp only [nunifys]; exact ⟨trivial, h⟩
 | a :: vs, [], s, _, h, _ => by simp only [nunifys]; exact ⟨trivial, h⟩
end
theorem nplace_in {ar st : Nat} (t : Tm) {s : NS} (ht : t.small) (h : NSok ar st s) : okI ar st (nplace t s).2.2.next ((nplace t s).1 : Int) ∧ Fl.okGs (okI ar st (nplace t s).2.2.next) (nplace t s).2.1 ∧ NSok ar st (nplace t s).2.2 := by
 unfold nplace
 split
 ·have := nnumber_in h t.name; exact ⟨this.1, trivial, this.2⟩
 ·have := nunify_in (ar := ar) (st := st) s.next t ht h.fresh.2 h.fresh.1
  exact ⟨h.fresh.1.mono (nunify_size s.next t (nfresh s).2).2.1, this.1, this.2⟩
theorem nequal_in {ar st : Nat} (a b : Tm) {s : NS} (ha : a.small) (hb : b.small) (h : NSok ar st s) : Fl.okGs (okI ar st (nequal a b s).2.next) (nequal a b s).1 ∧ NSok ar st (nequal a b s).2 := by
 unfold nequal
 split
 ·split
  ·exact ⟨trivial, h⟩
  ·have h1 := nnumber_in h a.name
   have h2 := nnumber_in h1.2 b.name
   refine ⟨⟨okG_leaf ?_ (Nat.zero_le _), trivial⟩, h2.2⟩
   show ∀ v ∈ [((nnumber a.name s).1 : Int), ((nnumber b.name (nnumber a.name s).2).1 : Int)], _
   intro v hv
   rcases List.mem_cons.1 hv with rfl | hv
   ·exact h1.1.mono (nnumber_next _ _).1
   ·rw [List.mem_singleton.1 hv]; exact h2.1
 ·split
  ·have h1 := nnumber_in h a.name; exact nunify_in _ b hb h1.2 h1.1
  ·split
   ·have h1 := nnumber_in h b.name; exact nunify_in _ a ha h1.2 h1.1
   ·have h1 := nunify_in (ar := ar) (st := st) s.next a ha h.fresh.2 h.fresh.1
    have hs1 := nunify_size s.next a (nfresh s).2
    have h2 := nunify_in (ar := ar) (st := st) s.next b hb h1.2 (h.fresh.1.mono hs1.2.1)
    have hs2 := nunify_size s.next b (nunify s.next a (nfresh s).2).2
    exact ⟨Fl.okGs_append.2 ⟨Fl.okGs.mono (okI.mono hs2.2.1) h1.1, h2.1⟩, h2.2⟩
theorem nplaces_in {ar st : Nat} : ∀ (ts : List Tm) {s : NS}, Tm.smalls ts → NSok ar st s → (∀ v ∈ (nplaces ts s).1, okI ar st (nplaces ts s).2.2.next (v : Int)) ∧ Fl.okGs (okI ar st (nplaces ts s).2.2.next) (nplaces ts s).2.1 ∧ NSok ar st (nplaces ts s).2.2
 | [], s, _, h => ⟨by simp [nplaces], trivial, h⟩
 | t :: ts, s, ht, h => by
  have h1 := nplace_in t ht.1 h
  have h2 := nplaces_in ts ht.2 h1.2.2
  have hs := nplaces_size ts (nplace t s).2.2
  simp only [nplaces]
  refine ⟨fun v hv => ?_, Fl.okGs_append.2 ⟨Fl.okGs.mono (okI.mono hs.2.1) h1.2.1, h2.2.1⟩, h2.2.2⟩
  rcases List.mem_cons.1 hv with rfl | hv
  ·exact h1.1.mono hs.2.1
  ·exact h2.1 v hv
theorem nwhole_in {A : Int → Prop} : ∀ {gs : List Fl}, gs.length ≤ 1073741824 → Fl.okGs A gs → (nwhole gs).okG A
 | [], _, _ => okG_leaf (by show ∀ v ∈ ([] : List Int), _; simp) (Nat.zero_le _)
 | [_], _, h => h.1
 | _ :: _ :: _, hl, h => ⟨by show ∀ v ∈ ([] : List Int), _; simp, Nat.zero_le _, hl, h⟩
mutual
theorem ngoal_in {ar st : Nat} : ∀ (g : Gl) {s : NS}, g.small → g.nodes ≤ 1073741824 → NSok ar st s → Fl.okGs (okI ar st (ngoal g s).2.next) (ngoal g s).1 ∧ NSok ar st (ngoal g s).2
 | .mk k a b n xs gs, s, hg, hn, h => by
  obtain ⟨ha, hb, hxl, hxs, hgl, hgs⟩ := hg
  have hw : Gl.nodess gs ≤ 1073741824 := by simp only [Gl.nodes] at hn; omega
  have row : ∀ (kk : Int) (x : Int) (s1 : NS), kk ≠ 3 → kk ≠ 5 → kk ≠ 6 → (∀ v ∈ nown (fRow kk x []), okI ar st (nwholes gs s1).2.next v) → NSok ar st s1 → (fRow kk x (nwholes gs s1).1).okG (okI ar st (nwholes gs s1).2.next) ∧ NSok ar st (nwholes gs s1).2 := fun kk x s1 _ _ _ hx h1 => by
   have h2 := nwholes_in (ar := ar) (st := st) gs hgs hw h1
   exact ⟨⟨hx, Nat.zero_le _, by rw [nwholes_len]; omega, h2.1⟩, h2.2⟩
  unfold ngoal
  split
  ·exact ⟨⟨okG_leaf (by show ∀ v ∈ ([] : List Int), _; simp) (Nat.zero_le _), trivial⟩, h⟩
  split
  ·exact nequal_in a b ha hb h
  split
  ·have h1 := nplaces_in (ar := ar) (st := st) xs hxs h
   refine ⟨Fl.okGs_append.2 ⟨h1.2.1, okG_leaf ?_ ?_, trivial⟩, h1.2.2⟩
   ·show ∀ v ∈ (nplaces xs s).1.map Int.ofNat, _
    intro v hv; obtain ⟨u, hu, rfl⟩ := List.mem_map.1 hv; exact h1.1 u hu
   ·rw [List.length_map, nplaces_len]; exact hxl
  split
  ·have h1 := nplace_in (ar := ar) (st := st) a ha h
   refine ⟨Fl.okGs_append.2 ⟨h1.2.1, okG_leaf ?_ (Nat.zero_le _), trivial⟩, h1.2.2⟩
   show ∀ v ∈ [((nplace a s).1 : Int)], _
   intro v hv; rw [List.mem_singleton.1 hv]; exact h1.1
  split
  ·exact ngoals_in gs hgs hw h
  split
  ·have := row 8 0 s (by decide) (by decide) (by decide) (by show ∀ v ∈ ([] : List Int), _; simp) h; exact ⟨⟨this.1, trivial⟩, this.2⟩
  split
  ·have := row 9 0 s (by decide) (by decide) (by decide) (by show ∀ v ∈ ([] : List Int), _; simp) h; exact ⟨⟨this.1, trivial⟩, this.2⟩
  split
  ·have h1 := nnumber_in h n
   have hs := nwholes_size gs (nnumber n s).2
   have := row 11 ((nnumber n s).1 : Int) (nnumber n s).2 (by decide) (by decide) (by decide) (by
    show ∀ v ∈ [((nnumber n s).1 : Int)], _
    intro v hv; rw [List.mem_singleton.1 hv]; exact h1.1.mono hs.1) h1.2
   exact ⟨⟨this.1, trivial⟩, this.2⟩
  ·exact ⟨trivial, h⟩
theorem ngoals_in {ar st : Nat} : ∀ (gs : List Gl) {s : NS}, Gl.smalls gs → Gl.nodess gs ≤ 1073741824 → NSok ar st s → Fl.okGs (okI ar st (ngoals gs s).2.next) (ngoals gs s).1 ∧ NSok ar st (ngoals gs s).2
 | [], s, _, _, h => ⟨trivial, h⟩
 | g :: gs, s, hg, hn, h => by
  simp only [Gl.nodess] at hn
  have h1 := ngoal_in (ar := ar) (st := st) g hg.1 (by omega) h
  have h2 := ngoals_in (ar := ar) (st := st) gs hg.2 (by omega) h1.2
  have hs := ngoals_size gs (ngoal g s).2
  simp only [ngoals]
  exact ⟨Fl.okGs_append.2 ⟨Fl.okGs.mono (okI.mono hs.2.1) h1.1, h2.1⟩, h2.2⟩
theorem nwholes_in {ar st : Nat} : ∀ (gs : List Gl) {s : NS}, Gl.smalls gs → Gl.nodess gs ≤ 1073741824 → NSok ar st s → Fl.okGs (okI ar st (nwholes gs s).2.next) (nwholes gs s).1 ∧ NSok ar st (nwholes gs s).2
 | [], s, _, _, h => ⟨trivial, h⟩
 | g :: gs, s, hg, hn, h => by
  simp only [Gl.nodess] at hn
  have h1 := ngoal_in (ar := ar) (st := st) g hg.1 (by omega) h
  have hz := ngoal_size g s
  have h2 := nwholes_in (ar := ar) (st := st) gs hg.2 (by omega) h1.2
  have hs := nwholes_size gs (ngoal g s).2
  simp only [nwholes]
  exact ⟨⟨Fl.okG.mono (okI.mono hs.1) (nwhole_in (by omega) h1.1), h2.1⟩, h2.2⟩
end
theorem nheads_in {ar st : Nat} : ∀ (i : Nat) (ts : List Tm) {s : NS}, Tm.smalls ts → i + ts.length ≤ ar → NSok ar st s → Fl.okGs (okI ar st (nheads i ts s).2.next) (nheads i ts s).1 ∧ NSok ar st (nheads i ts s).2
 | _, [], s, _, _, h => ⟨trivial, h⟩
 | i, t :: ts, s, ht, hi, h => by
  simp only [List.length_cons] at hi
  have h1 := nunify_in (ar := ar) (st := st) i t ht.1 h ⟨i, rfl, .inl (by omega)⟩
  have h2 := nheads_in (ar := ar) (st := st) (i + 1) ts ht.2 (by omega) h1.2
  have hs := nheads_size (i + 1) ts (nunify i t s).2
  simp only [nheads]
  exact ⟨Fl.okGs_append.2 ⟨Fl.okGs.mono (okI.mono hs.2.1) h1.1, h2.1⟩, h2.2⟩
theorem nclause_in {ar n : Nat} {it : It} (hs : it.small) (ha : it.args.length ≤ ar) (hn : it.nodes ≤ 536870912) : (nclause it n).1.okG (okI ar n (nclause it n).2) := by
 have hN := hn
 simp only [It.nodes] at hN
 have h1 := nheads_in (ar := ar) (st := n) 0 it.args (s := ⟨n, []⟩) hs.args.2 (by omega) ⟨Nat.le_refl _, by simp⟩
 have h2 := ngoal_in (ar := ar) (st := n) it.body hs.body (by omega) h1.2
 have z1 := nheads_size 0 it.args ⟨n, []⟩
 have z2 := ngoal_size it.body (nheads 0 it.args ⟨n, []⟩).2
 exact nwhole_in (by rw [List.length_append]; omega) (Fl.okGs_append.2 ⟨Fl.okGs.mono (okI.mono z2.2.1) h1.1, h2.1⟩)
/-- Each clause's numbers are its own, or arguments. -/
theorem nclauses_in {ar : Nat} : ∀ {ls : List It} {n : Nat}, (∀ it ∈ ls, it.small ∧ it.args.length ≤ ar ∧ it.nodes ≤ 536870912) → ar ≤ n → Fl.okGs (okI (nclauses ls n).2 (nclauses ls n).2 (nclauses ls n).2) (nclauses ls n).1
 | [], _, _, _ => trivial
 | it :: ls, n, h, hn => by
  obtain ⟨h1, h2, h3⟩ := h it (.head _)
  have z := nclause_next it n
  have ih := nclauses_in (ar := ar) (ls := ls) (n := (nclause it n).2) (fun x hx => h x (.tail _ hx)) (by omega)
  have zs := nclauses_next ls (nclause it n).2
  simp only [nclauses]
  refine ⟨Fl.okG.mono (fun v ⟨k, e, hk⟩ => ⟨k, e, .inl ?_⟩) (nclause_in h1 h2 h3), ih⟩
  omega
end Go.Aug

/- Flat goals: the reference's comparison. -/
namespace Go.Aug
open Go.Proofs
set_option maxRecDepth 100000
set_option linter.unusedSimpArgs false
attribute [local irreducible] hid andK letA onSome onVar onArr arrOnly onInt onBool onTup idxA ldV ldD addO appTo fillL slA srcK nilQ retW gif sgd sguard svc sops sdops sagain aopO aLoad aStore aBin aUn aConv aLen aIndexAddr aIndex aIndexAddrS aIndexS aSlice aAppend aBuild aBuildSlice aMakeSlice aField aFieldOf aCallOp deepK deepL frzM putE newK newV growV ACall roundQ thenQ inBlockQ sret cnd szs nilC onMap onRow aLookup aMapUpdate aMakeMap
attribute [local go_sem] Int.natCast_zero
mutual
def Fl.nodes : Fl → Nat
 | .mk _ _ _ _ _ _ _ gs => 1 + Fl.nodess gs
def Fl.nodess : List Fl → Nat
 | [] => 0
 | g :: gs => g.nodes + Fl.nodess gs
end
theorem Fl.nodess_mem {g : Fl} : ∀ {gs : List Fl}, g ∈ gs → g.nodes ≤ Fl.nodess gs
 | _ :: _, .head _ => by simp only [Fl.nodess]; omega
 | _ :: _, .tail _ h => by have := Fl.nodess_mem h; simp only [Fl.nodess]; omega
mutual
/-- The rows of a goal are not too long. -/
def Fl.fit : Fl → Prop
 | .mk _ _ _ _ _ _ xs gs => xs.length ≤ 1048576 ∧ gs.length ≤ 1099511627776 ∧ Fl.fits gs
def Fl.fits : List Fl → Prop
 | [] => True
 | g :: gs => g.fit ∧ Fl.fits gs
end
theorem Fl.fits_mem : ∀ {gs : List Fl}, Fl.fits gs → ∀ g ∈ gs, g.fit
 | _ :: _, h, _, .head _ => h.1
 | _ :: _, h, t, .tail _ ht => Fl.fits_mem h.2 t ht
mutual
theorem Fl.okG.fit {A : Int → Prop} : ∀ {f : Fl}, f.okG A → f.fit
 | .mk _ _ _ _ _ _ _ _, ⟨_, h2, h3, h4⟩ => ⟨Nat.le_trans h2 (by decide), Nat.le_trans h3 (by decide), Fl.okGs.fit h4⟩
theorem Fl.okGs.fit {A : Int → Prop} : ∀ {gs : List Fl}, Fl.okGs A gs → Fl.fits gs
 | [], _ => trivial
 | _ :: _, ⟨h1, h2⟩ => ⟨h1.fit, h2.fit⟩
end
end Go.Aug

/- The Flat laws: their example. -/
namespace Go.Aug
open Go.Proofs
set_option maxRecDepth 100000
set_option linter.unusedSimpArgs false
attribute [local irreducible] hid andK letA onSome onVar onArr arrOnly onInt onBool onTup idxA ldV ldD addO appTo fillL slA srcK nilQ retW gif sgd sguard svc sops sdops sagain aopO aLoad aStore aBin aUn aConv aLen aIndexAddr aIndex aIndexAddrS aIndexS aSlice aAppend aBuild aBuildSlice aMakeSlice aField aFieldOf aCallOp deepK deepL frzM putE newK newV growV ACall roundQ thenQ inBlockQ sret cnd szs nilC onMap onRow aLookup aMapUpdate aMakeMap
attribute [local go_sem] Int.natCast_zero
/-- Flatten, of a text's items and index. -/
theorem flatten_named {eb : EbG} [ho1 : On eb 1] [ho2 : On eb 2] {s : ByteArray} {x : Ix} (h : (rnamed s).2 = some x) (q : Ky) (hq : 0 ≤ q.ar) (hqa : q.ar ≤ 1048576) (H : Heap) (K : A → Heap → Prop)
  (hK : K (.tup [.d (nflat (rtext s).1 x q).2.d, .d (errD (nflat (rtext s).1 x q).1)]) H) :
  ACall Tryd.prog (seatV eb) 15 [.d (.slice ((rtext s).1.map It.d)), .d x.d, .d q.d] H K := by
 have hx := (named_flat h).2
 have hlen := rtext_len s
 have hsm := (rtext_srcs s).small
 refine flatten_ok (rtext s).1 (rtext_srcs s) x (by have := hx.few; omega) q (fun _ _ => ⟨hq, hqa⟩) (fun p hp => ?_) H K hK
 have hok := hx.ok hsm p (pfind_mem hp).1
 refine ⟨by have := hok.few; omega, hok.range, sum_few hlen (rtext_few s) hok.few⟩
def aTxt : ByteArray := ⟨#[112, 114, 101, 100, 32, 112, 40, 105, 110, 116, 44, 32, 105, 110, 116, 41, 46, 32, 109, 111, 100, 101, 32, 112, 40, 105, 110, 44, 32, 105, 110, 41, 32, 105, 115, 32, 115, 101, 109, 105, 100, 101, 116, 46, 32, 112, 40, 88, 44, 32, 88, 41, 46]⟩
def aIx : Ix := (rnamed aTxt).2.getD ⟨[], [], []⟩
theorem aTxt_is : (rnamed aTxt).2.isSome = true := by kernel_rfl
theorem aIx_is : (rnamed aTxt).2 = some aIx := by
 obtain ⟨x, hx⟩ := Option.isSome_iff_exists.1 aTxt_is
 rw [aIx, hx]; rfl
theorem aFlat_is : nflat (rtext aTxt).1 aIx ⟨⟨#[112]⟩, 2⟩ = (0, ⟨⟨⟨#[112]⟩, 2⟩, 2, fSame 1 0⟩) := by kernel_rfl
set_option maxHeartbeats 2000000 in
theorem alive13_ok {eb : EbG} [ho1 : On eb 1] [ho2 : On eb 2] (H : Heap) (K : A → Heap → Prop) (hK : K (.d (.bool true)) H) : ACall Tryd.prog (seatV eb) 13 [] H K := by
 refine ACall.hp_start ?_
 refine ACall.by mixed fn13 (by simp) ?_
 conv in s13 => cbv
 refine svc_start ?_
 simp -dsimp only [go_sem, gS]
 refine named_ok _ aTxt _ ?_
 rw [(named_flat aIx_is).1, aIx_is]
 have hf := aFlat_is
 have hfl := fun H => flatten_named (eb := eb) aIx_is ⟨⟨#[112]⟩, 2⟩ (by decide) (by decide) H
 rw [hf] at hfl
 generalize aIx = x at hfl
 obtain ⟨xts, xcs, ps⟩ := x
 simp -dsimp only [go_sem, gS, ixD, Option.getD_some, Option.isSome_some, Ix.d, Ix.cs]
 refine newK_hp (fun b2 f2 => ?_)
 simp only [off_cons, off_nil] at f2
 simp -dsimp only [go_sem, gS, f2]
 refine hfl _ _ ?_
 have he : errD 0 = .raw .nilIface := rfl
 simp -dsimp only [go_sem, gS, f2, FP.d, FP.cs, fSame, Fl.cs, Fl.ds, List.map_nil, List.cons_append, List.nil_append, he, ky0]
 refine newK_hp (fun b4 f4 => ?_)
 simp only [off_cons, off_nil] at f4
 simp -dsimp only [go_sem, gS, f2, f4]
 refine andK_split rfl ?_
 simp -dsimp only [go_sem, gS, f2, f4]
 exact retW_drop (G := H) (leH_hp0 (by simp only [hpS, eq_self, implies_true, f2, f4])) (retW_is hK)
end Go.Aug

/- Flatten of a text's index, and of one with fewer clauses; the numbers of its bodies. -/
namespace Go.Aug
open Go.Proofs
set_option maxRecDepth 100000
set_option linter.unusedSimpArgs false
theorem clsFrom_at (q : Ky) : ∀ (j : Nat) (l : List It), ∀ c ∈ clsFrom q j l, ∃ k it, c = ((j + k : Nat) : Int) ∧ l[k]? = some it ∧ isOf 4 q it = true
 | _, [], _, h => by simp [clsFrom] at h
 | j, y :: ys, c, h => by
  have key : c ∈ clsFrom q (j + 1) ys → ∃ k it, c = ((j + k : Nat) : Int) ∧ (y :: ys)[k]? = some it ∧ isOf 4 q it = true := fun h => by
   obtain ⟨k, it, e, h1, h2⟩ := clsFrom_at q (j + 1) ys c h
   exact ⟨k + 1, it, by rw [e]; congr 1; omega, by simpa using h1, h2⟩
  simp only [clsFrom] at h
  split at h
  ·rename_i hy
   rcases List.mem_cons.1 h with rfl | h
   ·exact ⟨0, y, rfl, rfl, hy⟩
   ·exact key h
  ·exact key h
/-- What an index says of a predicate, of the items. -/
structure PrAt (l : List It) (p : Pr) : Prop extends PrOk l p where
 cl : ∀ c ∈ p.clauses, ∃ it, l[c.toNat]? = some it ∧ it.kind = 4 ∧ (it.args.length : Int) = p.key.ar
theorem IxOf.at {l : List It} {x : Ix} (h : IxOf l x) (hs : ∀ it ∈ l, it.small) : ∀ p ∈ x.preds, PrAt l p := by
 intro p hp
 refine ⟨h.ok hs p hp, fun c hc => ?_⟩
 rw [h.preds] at hp
 rcases List.mem_append.1 hp with hp | hp
 ·have hb : ∀ p ∈ builtinsL, p.clauses = [] := by
   simp only [builtinsL, List.mem_cons, List.not_mem_nil, or_false]
   rintro p (rfl | rfl | rfl | rfl | rfl | rfl | rfl)
   all_goals rfl
  rw [hb p hp] at hc; simp at hc
 ·obtain ⟨it, hit, rfl⟩ := List.mem_map.1 hp
  obtain ⟨k, y, rfl, h1, h2⟩ := clsFrom_at _ _ _ c hc
  have h2' : y.kind = 4 ∧ keyOf y = keyOf it := by simpa [isOf, Ky.eqb_iff] using h2
  refine ⟨y, by simpa using h1, h2'.1, ?_⟩
  show _ = (keyOf it).ar
  rw [← h2'.2, keyOf, if_neg (by omega), if_neg (by omega)]
/-- Items as a text has them. -/
structure Txt (l : List It) : Prop where
 few : l.length ≤ 512
 small : ∀ it ∈ l, it.small
 nodes : ∀ it ∈ l, it.nodes ≤ 98313
theorem rtext_txt (s : ByteArray) : Txt (rtext s).1 := ⟨rtext_len s, (rtext_srcs s).small, rtext_few s⟩
theorem flatten_at {eb : EbG} [ho1 : On eb 1] [ho2 : On eb 2] {l : List It} (hl : Txt l) {x : Ix} (hx : x.preds.length ≤ 519) (hp : ∀ p ∈ x.preds, PrAt l p) (q : Ky) (hq : 0 ≤ q.ar) (hqa : q.ar ≤ 1048576) (H : Heap) (K : A → Heap → Prop)
  (hK : K (.tup [.d (nflat l x q).2.d, .d (errD (nflat l x q).1)]) H) :
  ACall Tryd.prog (seatV eb) 15 [.d (.slice (l.map It.d)), .d x.d, .d q.d] H K := by
 have hlen := hl.few
 refine flatten_ok l ⟨by omega, hl.small⟩ x (by omega) q (fun _ _ => ⟨hq, hqa⟩) (fun p hpf => ?_) H K hK
 have hok := hp p (pfind_mem hpf).1
 exact ⟨by have := hok.few; omega, hok.range, sum_few hlen hl.nodes hok.few⟩
/-- The body's numbers. -/
theorem nflat_in {l : List It} (hl : Txt l) {x : Ix} (hp : ∀ p ∈ x.preds, PrAt l p) {q : Ky} (h0 : (nflat l x q).1 = 0) :
  (nflat l x q).2.key = q ∧ q.ar ≤ (nflat l x q).2.vars ∧ (nflat l x q).2.vars ≤ 200 ∧ (nflat l x q).2.body.okG (fun v => ∃ k : Nat, v = (k : Int) ∧ (k : Int) < (nflat l x q).2.vars) := by
 unfold nflat at h0 ⊢
 cases hf : pfind x.preds q with
 | none => rw [hf] at h0; simp at h0
 | some p =>
  have hok := hp p (pfind_mem hf).1
  have hk := (pfind_mem hf).2
  rw [hf] at h0
  simp only at h0 ⊢
  by_cases hb : isBuiltin q = true
  ·rw [if_pos hb] at h0; cases h0
  ·rw [if_neg hb] at h0 ⊢
   by_cases hg : 200 < (nclauses (atIts l p.clauses) q.ar.toNat).2
   ·rw [if_pos hg] at h0; cases h0
   ·rw [if_neg hg]
    have har := hok.ar
    rw [hk] at har
    have hn := nclauses_next (atIts l p.clauses) q.ar.toNat
    have hin : Fl.okGs (okI (nclauses (atIts l p.clauses) q.ar.toNat).2 (nclauses (atIts l p.clauses) q.ar.toNat).2 (nclauses (atIts l p.clauses) q.ar.toNat).2) (nclauses (atIts l p.clauses) q.ar.toNat).1 := by
     refine nclauses_in (ar := q.ar.toNat) (fun it hit => ?_) (Nat.le_refl _)
     obtain ⟨c, hc, rfl⟩ := List.mem_map.1 hit
     obtain ⟨y, h1, _, h2⟩ := hok.cl c hc
     rw [List.getD_eq_getElem?_getD, h1, Option.getD_some]
     have hm := List.mem_of_getElem? h1
     rw [hk] at h2
     exact ⟨hl.small y hm, by omega, Nat.le_trans (hl.nodes y hm) (by decide)⟩
    have hnl := nclauses_len (atIts l p.clauses) q.ar.toNat
    have hll : (atIts l p.clauses).length ≤ 512 := by have := hok.few; have := hl.few; simp only [atIts, List.length_map]; omega
    generalize nclauses (atIts l p.clauses) q.ar.toNat = z at hn hin hnl hg ⊢
    obtain ⟨gs, n⟩ := z
    simp only at hn hin hnl hg ⊢
    refine ⟨trivial, by omega, by omega, ?_⟩
    have hA : Fl.okGs (fun v => ∃ k : Nat, v = (k : Int) ∧ (k : Int) < (n : Int)) gs := Fl.okGs.mono (fun v ⟨k, e, h⟩ => ⟨k, e, by omega⟩) hin
    rcases gs with _ | ⟨a, _ | ⟨b, gs⟩⟩
    ·exact okG_leaf (by show ∀ v ∈ ([] : List Int), _; simp) (Nat.zero_le _)
    ·exact hA.1
    ·exact ⟨by show ∀ v ∈ ([] : List Int), _; simp, Nat.zero_le _, by omega, hA⟩
end Go.Aug
