/- The contracts of the reference's Flatten, of comparisons of a thing with itself, of the errors' numbers, and of FlatBodies; conditions stand in each contract. -/
import Derived.Test.YtejfagblpbmokaaDoorFlatFive
set_option linter.all false
set_option linter.unusedVariables false
set_option linter.unusedSimpArgs false
set_option linter.unusedSectionVars false

/- The reference's flat goals: Flatten. -/
namespace Go.Aug
open Nat renaming reduceBEq → zA, reduceLT → zB, reduceAdd → zC, reduceSub → zD, reduceMul → zE, reduceLeDiff → zF
open Int renaming reduceLE → zG
open Go.Proofs
set_option maxRecDepth 100000
set_option linter.unusedSimpArgs false
attribute [local irreducible] hid andK letA onSome onVar onArr arrOnly onInt onBool onFunc onTup idxA ldV ldD addO appTo fillL slA srcK nilQ retW gif sgd sguard svc sops sdops sagain aopO aLoad aStore aBin aUn aConv aLen aIndexAddr aIndex aIndexAddrS aIndexS aSlice aAppend aBuild aBuildSlice aMakeSlice aField aFieldOf aCallOp deepK deepL frzM putE newK newV growV ACall roundQ thenQ inBlockQ sret cnd szs nilC onMap onRow aLookup aMapUpdate aMakeMap
attribute [local go_sem] Int.natCast_zero
set_option maxHeartbeats 2000000 in
theorem pred05_ok {eb : EbG} (x : Ix) (hl : x.preds.length ≤ 1048576) (q : Ky) (H : Heap) (K : A → Heap → Prop) (hK : K (.tup [.d ((pfind x.preds q).getD kyP0).d, .d (.bool (pfind x.preds q).isSome)]) H) :
  ACall Tryd.prog (seatV eb) 33 [.d x.d, .d q.d] H K := by
 obtain ⟨ts, cs, l⟩ := x
 obtain ⟨qn, qa⟩ := q
 simp only at hl hK
 refine ACall.hp_start ?_
 refine ACall.by mixed fn33 (by simp) ?_
 conv in s33 => cbv
 refine svc_start ?_
 simp -dsimp (maxDischargeDepth := 9) only [go_sem, zA, zB, zC, zD, zE, zF, zG, gS, Ix.d, Ix.cs, Ky.d, Ky.cs]
 refine newK_hp (fun b2 f2 => ?_)
 simp only [off_cons, off_nil] at f2
 simp -dsimp (maxDischargeDepth := 9) only [go_sem, zA, zB, zC, zD, zE, zF, zG, gS, f2]
 refine newK_hp (fun b3 f3 => ?_)
 simp only [off_cons, off_nil] at f3
 simp -dsimp (maxDischargeDepth := 9) only [go_sem, zA, zB, zC, zD, zE, zF, zG, gS, f2, f3]
 refine newK_hp (fun b4 f4 => ?_)
 simp only [off_cons, off_nil] at f4
 simp -dsimp (maxDischargeDepth := 9) only [go_sem, zA, zB, zC, zD, zE, zF, zG, gS, f2, f3, f4]
 refine svc_loop (X := Nat) (fun j => [(3, .ref b3 0), (4, .ref b4 0), (9, .d (.slice (l.map Pr.d))), (10, .d (.int .i64 l.length)), (11, .d (.int .i64 j))])
  (fun j G => G = hp H [(b3, .var [.d (.str qn), .d (.int .i64 qa)]), (b4, .var [.d (.str ⟨#[]⟩), .d (.int .i64 0), .nils, .nils, .nils])] ∧ j ≤ l.length ∧ pfind l ⟨qn, qa⟩ = pfind (l.drop j) ⟨qn, qa⟩) (fun j => l.length - j) 0 _ ⟨rfl, Nat.zero_le _, rfl⟩ (by simp -dsimp (maxDischargeDepth := 9) only [go_sem, zA, zB, zC, zD, zE, zF, zG, gS]) (leH_hp (by simp only [hpS, eq_self, implies_true, f2, f3, f4]) (by simp only [hpS, eq_self, implies_true, f2, f3, f4])) ?_
 rintro j G ⟨hG, hj, hs⟩
 subst hG
 simp -dsimp (maxDischargeDepth := 9) only [go_sem, zA, zB, zC, zD, zE, zF, zG, gS]
 refine gif_split (fun q1 => ?_) (fun q1 => ?_)
 ·have q1' : j < l.length := by have := of_decide_eq_true q1; omega
  obtain ⟨⟨⟨kn, ka⟩, pts, pms, pcs⟩, hx⟩ := list_at q1'
  have hw := wrapN (k := j) (by omega)
  rw [drop_at hx] at hs
  simp -dsimp (maxDischargeDepth := 9) only [go_sem, zA, zB, zC, zD, zE, zF, zG, gS, q1, hx, f3, f4, Pr.d, Pr.cs]
  refine newK_hp (fun b7 f7 => ?_)
  simp only [off_cons, off_nil] at f7
  simp -dsimp (maxDischargeDepth := 9) only [go_sem, zA, zB, zC, zD, zE, zF, zG, gS, f3, f4, f7]
  refine gif_split (fun q2 => ?_) (fun q2 => ?_)
  ·have hb : Ky.eqb ⟨kn, ka⟩ ⟨qn, qa⟩ = true := by simpa [Ky.eqb] using q2
   simp only [pfind, List.find?_cons, hb] at hs
   simp only [pfind, hs, Option.getD_some, Option.isSome_some, Pr.d, Pr.cs] at hK
   simp -dsimp (maxDischargeDepth := 9) only [go_sem, zA, zB, zC, zD, zE, zF, zG, gS, q2, f3, f4, f7]
   refine retW_tup [true, true] ?_
   simp -dsimp (maxDischargeDepth := 9) only [go_sem, zA, zB, zC, zD, zE, zF, zG, gS, frzM]
   exact retW_drop (G := H) (leH_hp0 (by simp only [hpS, eq_self, implies_true, f3, f4, f7])) (retW_is hK)
  ·have hb : Ky.eqb ⟨kn, ka⟩ ⟨qn, qa⟩ = false := by simpa [Ky.eqb] using q2
   simp only [pfind, List.find?_cons, hb] at hs
   simp -dsimp (maxDischargeDepth := 9) only [go_sem, zA, zB, zC, zD, zE, zF, zG, gS, q2, f3, f4, f7, hw]
   refine roundQ_next (j + 1) _ ⟨rfl, q1', by simp only [pfind]; exact hs⟩ (by omega) (by simp -dsimp (maxDischargeDepth := 9) only [go_sem, zA, zB, zC, zD, zE, zF, zG, gS]) (leH_hp (by simp only [hpS, eq_self, implies_true, f3, f4, f7]) (by simp only [hpS, eq_self, implies_true, f3, f4, f7]))
 ·rw [drop_end (by have := of_decide_eq_false q1; omega)] at hs
  simp only [pfind, List.find?_nil] at hs
  simp only [pfind, hs, Option.getD_none, Option.isSome_none, kyP0, Pr.d, Pr.cs, List.map_nil] at hK
  simp -dsimp (maxDischargeDepth := 9) only [go_sem, zA, zB, zC, zD, zE, zF, zG, gS, q1, f3, f4]
  refine retW_tup [true, true] ?_
  simp -dsimp (maxDischargeDepth := 9) only [go_sem, zA, zB, zC, zD, zE, zF, zG, gS, frzM]
  exact retW_drop (G := H) (leH_hp0 (by simp only [hpS, eq_self, implies_true, f3, f4])) (retW_is hK)
def errN (n : Nat) : Int := if n = 0 then 0 else if n = 1 then 9 else 4
set_option maxHeartbeats 16000000 in
theorem flatten05_ok {eb : EbG} (l : List It) (hl : Srcs l) (x : Ix) (hx : x.preds.length ≤ 1048576) (q : Ky) (hqq : ∀ p, pfind x.preds q = some p → 0 ≤ q.ar ∧ q.ar ≤ 1048576)
  (hcl : ∀ p, pfind x.preds q = some p → p.clauses.length ≤ 1048576 ∧ (∀ c ∈ p.clauses, 0 ≤ c ∧ c < l.length) ∧ sumNodes (atIts l p.clauses) ≤ 549755813888) (H : Heap) (K : A → Heap → Prop)
  (hK : K (.tup [.d (nflat l x q).2.d, .d (.int .i64 (errN (nflat l x q).1))]) H) :
  ACall Tryd.prog (seatV eb) 29 [.d (.slice (l.map It.d)), .d x.d, .d q.d] H K := by
 obtain ⟨xts, xcs, ps⟩ := x
 simp only at hx hcl hqq
 refine ACall.hp_start ?_
 refine ACall.by mixed fn29 (by simp) ?_
 conv in s29 => cbv
 refine svc_start ?_
 simp -dsimp (maxDischargeDepth := 9) only [go_sem, zA, zB, zC, zD, zE, zF, zG, gS, Ix.d, Ix.cs, Ky.d, Ky.cs]
 refine newK_hp (fun b4 f4 => ?_)
 simp only [off_cons, off_nil] at f4
 simp -dsimp (maxDischargeDepth := 9) only [go_sem, zA, zB, zC, zD, zE, zF, zG, gS, f4]
 refine newK_hp (fun b5 f5 => ?_)
 simp only [off_cons, off_nil] at f5
 simp -dsimp (maxDischargeDepth := 9) only [go_sem, zA, zB, zC, zD, zE, zF, zG, gS, f4, f5]
 refine newK_hp (fun b6 f6 => ?_)
 simp only [off_cons, off_nil] at f6
 simp -dsimp (maxDischargeDepth := 9) only [go_sem, zA, zB, zC, zD, zE, zF, zG, gS, f4, f5, f6]
 refine pred05_ok ⟨xts, xcs, ps⟩ hx q _ _ ?_
 simp only
 cases hpf : pfind ps q with
 | none =>
  simp only [Option.getD_none, Option.isSome_none]
  simp -dsimp (maxDischargeDepth := 9) only [go_sem, zA, zB, zC, zD, zE, zF, zG, gS, f4, f5, f6, kyP0, Pr.d, Pr.cs, List.map_nil, List.cons_append, List.nil_append]
  refine newK_hp (fun b8 f8 => ?_)
  simp only [off_cons, off_nil] at f8
  simp -dsimp (maxDischargeDepth := 9) only [go_sem, zA, zB, zC, zD, zE, zF, zG, gS, f4, f5, f6, f8]
  have hn : nflat l ⟨xts, xcs, ps⟩ q = (1, fp0) := by simp only [nflat, hpf]
  rw [hn] at hK
  refine retW_tup [true, true] ?_
  simp -dsimp (maxDischargeDepth := 9) only [go_sem, zA, zB, zC, zD, zE, zF, zG, gS, frzM]
  exact retW_drop (G := H) (leH_hp0 (by simp only [hpS, eq_self, implies_true, f4, f5, f6, f8])) (retW_is hK)
 | some p =>
  obtain ⟨hcn, hcr, hsn⟩ := hcl p hpf
  obtain ⟨hq, hqa⟩ := hqq p hpf
  obtain ⟨⟨pkn, pka⟩, pts, pms, pcs⟩ := p
  simp only [Option.getD_some, Option.isSome_some]
  simp only at hcn hcr hsn
  simp -dsimp (maxDischargeDepth := 9) only [go_sem, zA, zB, zC, zD, zE, zF, zG, gS, f4, f5, f6, Pr.d, Pr.cs, List.cons_append, List.nil_append]
  refine newK_hp (fun b8 f8 => ?_)
  simp only [off_cons, off_nil] at f8
  simp -dsimp (maxDischargeDepth := 9) only [go_sem, zA, zB, zC, zD, zE, zF, zG, gS, f4, f5, f6, f8]
  refine builtin04_ok _ q _ ?_
  simp -dsimp (maxDischargeDepth := 9) only [go_sem, zA, zB, zC, zD, zE, zF, zG, gS, f4, f5, f6, f8]
  refine gif_split (fun g1 => ?_) (fun g1 => ?_)
  ·simp -dsimp (maxDischargeDepth := 9) only [go_sem, zA, zB, zC, zD, zE, zF, zG, gS, g1, f4, f5, f6, f8]
   have hn : nflat l ⟨xts, xcs, ps⟩ q = (1, fp0) := by simp only [nflat, hpf]; exact if_pos g1
   rw [hn] at hK
   refine retW_tup [true, true] ?_
   simp -dsimp (maxDischargeDepth := 9) only [go_sem, zA, zB, zC, zD, zE, zF, zG, gS, frzM]
   exact retW_drop (G := H) (leH_hp0 (by simp only [hpS, eq_self, implies_true, f4, f5, f6, f8])) (retW_is hK)
  ·obtain ⟨ar, har⟩ := Int.eq_ofNat_of_zero_le hq
   have hn : nflat l ⟨xts, xcs, ps⟩ q = if 200 < (nclauses (atIts l pcs) ar).2 then (2, fp0) else (0, ⟨q, (nclauses (atIts l pcs) ar).2, nbody (nclauses (atIts l pcs) ar).1⟩) := by
    simp only [nflat, hpf, har, Int.toNat_natCast]; exact if_neg (by rw [g1]; exact Bool.false_ne_true)
   rw [hn] at hK
   simp only [har]
   have hal : (atIts l pcs).length = pcs.length := by simp [atIts]
   simp -dsimp (maxDischargeDepth := 9) only [go_sem, zA, zB, zC, zD, zE, zF, zG, gS, g1, f4, f5, f6, f8]
   refine newV_hp (fun b34 v34 f34 w34 => ?_)
   simp only [off_cons, off_nil] at f34
   simp -dsimp (maxDischargeDepth := 9) only [go_sem, zA, zB, zC, zD, zE, zF, zG, gS, f4, f5, f6, f8, f34]
   have hacc0 : AccN H [] [pcF [] (.own b34 v34)] (upd H b34 (.arr 39 10 v34 [])) := (AccN.none H []).new (by simp only [hpS, eq_self, implies_true, ]) f34.2.2.2.2.2.2.2.2 w34
   have h0 : upd H b34 (.arr 39 10 v34 []) b5 = none ∧ upd H b34 (.arr 39 10 v34 []) b6 = none := ⟨upd_eq_none.2 ⟨eqn_false f34.2.2.2.1, f5.2.2⟩, upd_eq_none.2 ⟨eqn_false f34.2.2.2.2.2.1, f6.2.2.2.2⟩⟩
   refine svc_loop (X := Nat × List Fl × Nat × A × Heap) (fun y => [(0, .d (.slice (l.map It.d))), (5, .ref b5 0), (6, .ref b6 0), (10, .d (.int .i64 y.2.2.1)), (11, y.2.2.2.1), (36, .d (.slice (pcs.map (.int .i64)))), (37, .d (.int .i64 pcs.length)), (38, .d (.int .i64 y.1))])
    (fun y G => G = hp y.2.2.2.2 [(b5, .var [.d (.str q.name), .d (.int .i64 ar)]), (b6, .var [.d (.str ⟨#[]⟩), .d (.int .i64 0), .d (.int .i64 0), .d (.int .i64 0), .d (.int .i64 0), .d (.int .i64 0), .d (.int .i64 0), .d (.str ⟨#[]⟩), .d (.int .i64 0), .d (.str ⟨#[]⟩), .d (.int .i64 0), .nils, .nils])] ∧ AccN H [] [pcF y.2.1 y.2.2.2.1] y.2.2.2.2 ∧ (y.2.2.2.2 b5 = none ∧ y.2.2.2.2 b6 = none) ∧ y.1 ≤ pcs.length ∧ (y.2.1 ++ (nclauses ((atIts l pcs).drop y.1) y.2.2.1).1, (nclauses ((atIts l pcs).drop y.1) y.2.2.1).2) = nclauses (atIts l pcs) ar ∧ y.2.2.1 + sumNodes ((atIts l pcs).drop y.1) ≤ ar + sumNodes (atIts l pcs) ∧ y.2.1.length = y.1)
    (fun y => pcs.length - y.1) (0, [], ar, .own b34 v34, upd H b34 (.arr 39 10 v34 [])) _ ⟨rfl, hacc0, h0, Nat.zero_le _, by simp, by simp, rfl⟩ (by simp -dsimp (maxDischargeDepth := 9) only [go_sem, zA, zB, zC, zD, zE, zF, zG, gS]) (by rw [hp_base (by simp only [hpS, eq_self, implies_true, f34])]; exact (leH_hp (by simp only [hpS, eq_self, implies_true, f4, f5, f6, f8, f34, setL_cons, setL_nil]) (by simp only [hpS, eq_self, implies_true, f4, f5, f6, f8, f34, setL_cons, setL_nil]))) ?_
   clear hacc0 h0
   rintro ⟨j, out, nx, a, R⟩ G ⟨hG, hacc, ⟨f51, f61⟩, hj, hrun, hnx, hout⟩
   simp only at hG hacc f51 f61 hj hrun hnx hout
   subst hG
   simp -dsimp (maxDischargeDepth := 9) only [go_sem, zA, zB, zC, zD, zE, zF, zG, gS]
   refine gif_split (fun q1 => ?_) (fun q1 => ?_)
   ·have q1' : j < pcs.length := by have := of_decide_eq_true q1; omega
    obtain ⟨c, hx⟩ := list_at q1'
    have hcx := hcr c (List.mem_of_getElem? hx)
    obtain ⟨ci, rfl⟩ := Int.eq_ofNat_of_zero_le hcx.1
    obtain ⟨it, hit⟩ := list_at (show ci < l.length by omega)
    have hitx : (atIts l pcs)[j]? = some it := by simp [atIts, hx, List.getD, hit]
    have hwj := wrapN (k := j) (by omega)
    rw [drop_at hitx] at hrun hnx
    simp only [nclauses, sumNodes] at hrun hnx
    obtain ⟨x1, x2, x3, x4, x5, x6, x7, x8, x9, x10, x11, x12, hbody, hd⟩ := it.opn
    have hgd : it.body.d = .agg [x1, x2, x3, x4, x5, x6, x7, x8, x9, x10, x11, x12] := by rw [Gl.d, hbody]
    have hit2 := hl.small it (List.mem_of_getElem? hit)
    obtain ⟨hav, hat⟩ := hit2.args
    have hnod := It.nodes.eq_def it
    simp -dsimp (maxDischargeDepth := 9) only [go_sem, zA, zB, zC, zD, zE, zF, zG, gS, q1, hx, hit, hd, f5, f6, f51, f61]
    refine newK_hp (fun b14 f14 => ?_)
    simp only [off_cons, off_nil] at f14
    simp -dsimp (maxDischargeDepth := 9) only [go_sem, zA, zB, zC, zD, zE, zF, zG, gS, f5, f6, f51, f61, f14]
    refine newV_hp (fun b45 v45 f45 w45 => ?_)
    simp only [off_cons, off_nil] at f45
    simp -dsimp (maxDischargeDepth := 9) only [go_sem, zA, zB, zC, zD, zE, zF, zG, gS, f5, f6, f51, f61, f14, f45, hit, hd]
    have hne45 := f45
    have hacc1 : AccN H [] (cps ⟨nx, []⟩ .nils .nils ++ [pcF [] (.own b45 v45), pcF out a]) (upd R b45 (.arr 39 10 v45 [])) :=
     ((hacc.new (E := 39) (sz := 10) (xs := []) (by simp only [hpS, eq_self, implies_true, f45]) f45.2.2.2.2.2.2 w45).nil 3 1).nil 9 1
    have h1 : upd R b45 (.arr 39 10 v45 []) b5 = none ∧ upd R b45 (.arr 39 10 v45 []) b6 = none ∧ upd R b45 (.arr 39 10 v45 []) b14 = none := ⟨upd_eq_none.2 ⟨eqn_false f45.2.1, f51⟩, upd_eq_none.2 ⟨eqn_false f45.2.2.2.1, f61⟩, upd_eq_none.2 ⟨eqn_false f45.2.2.2.2.2.1, f14.2.2.2.2⟩⟩
    refine svc_loop (X := Nat × List Fl × NS × A × A × A × Heap) (fun y => [(0, .d (.slice (l.map It.d))), (5, .ref b5 0), (6, .ref b6 0), (11, a), (13, .d (.int .i64 ci)), (14, .ref b14 0), (15, y.2.2.2.2.2.1), (36, .d (.slice (pcs.map (.int .i64)))), (37, .d (.int .i64 pcs.length)), (38, .d (.int .i64 j)), (50, .d (.slice (it.args.map Tm.d))), (51, .d (.int .i64 it.args.length)), (52, .d (.int .i64 y.1))])
     (fun y G => G = hp y.2.2.2.2.2.2 [(b14, cvar y.2.2.1 y.2.2.2.1 y.2.2.2.2.1), (b5, .var [.d (.str q.name), .d (.int .i64 ar)]), (b6, .var [.d (.str ⟨#[]⟩), .d (.int .i64 0), .d (.int .i64 0), .d (.int .i64 0), .d (.int .i64 0), .d (.int .i64 0), .d (.int .i64 0), .d (.str ⟨#[]⟩), .d (.int .i64 0), .d (.str ⟨#[]⟩), .d (.int .i64 0), .nils, .nils])] ∧ AccN H [] (cps y.2.2.1 y.2.2.2.1 y.2.2.2.2.1 ++ [pcF y.2.1 y.2.2.2.2.2.1, pcF out a]) y.2.2.2.2.2.2 ∧ (y.2.2.2.2.2.2 b5 = none ∧ y.2.2.2.2.2.2 b6 = none ∧ y.2.2.2.2.2.2 b14 = none) ∧ y.1 ≤ it.args.length ∧ (y.2.1 ++ (nheads y.1 (it.args.drop y.1) y.2.2.1).1, (nheads y.1 (it.args.drop y.1) y.2.2.1).2) = nheads 0 it.args ⟨nx, []⟩ ∧ y.2.2.1.next + Tm.nodess (it.args.drop y.1) ≤ nx + Tm.nodess it.args ∧ y.2.2.1.names.length + Tm.nodess (it.args.drop y.1) ≤ Tm.nodess it.args ∧ y.2.1.length + Tm.nodess (it.args.drop y.1) ≤ Tm.nodess it.args)
     (fun y => it.args.length - y.1) (0, [], ⟨nx, []⟩, .nils, .nils, .own b45 v45, upd R b45 (.arr 39 10 v45 [])) _ ⟨rfl, hacc1, h1, Nat.zero_le _, by simp, by simp, by simp, by simp⟩ (by simp -dsimp (maxDischargeDepth := 9) only [go_sem, zA, zB, zC, zD, zE, zF, zG, gS]) (by rw [hp_base (by simp only [hpS, eq_self, implies_true, f45, f14])]; exact (leH_hp (by simp only [hpS, eq_self, implies_true, f5, f6, f51, f61, f14, f45, setL_cons, setL_nil]) (by simp only [hpS, eq_self, implies_true, f5, f6, f51, f61, f14, f45, setL_cons, setL_nil]))) ?_
    clear hacc1 h1
    rintro ⟨k, rows, s1, c1, c2, a2, R2⟩ G ⟨hG, hacc2, ⟨g5, g6, g14⟩, hk, hrun2, hnx2, hnn2, hout2⟩
    simp only at hG hacc2 g5 g6 g14 hk hrun2 hnx2 hnn2 hout2
    subst hG
    simp -dsimp (maxDischargeDepth := 9) only [go_sem, zA, zB, zC, zD, zE, zF, zG, gS]
    refine gif_split (fun q2 => ?_) (fun q2 => ?_)
    ·have q2' : k < it.args.length := by have := of_decide_eq_true q2; omega
     obtain ⟨⟨tk, tn, ti, ta⟩, hx2⟩ := list_at q2'
     have hwk := wrapN (k := k) (by omega)
     rw [drop_at hx2] at hrun2 hnx2 hnn2 hout2
     simp only [nheads, Tm.nodess] at hrun2 hnx2 hnn2 hout2
     simp -dsimp (maxDischargeDepth := 9) only [go_sem, zA, zB, zC, zD, zE, zF, zG, gS, q2, hx2, Tm.d, Tm.cs, f5, f6, f14, g5, g6, g14]
     refine newK_hp (fun b17 f17 => ?_)
     simp only [off_cons, off_nil] at f17
     simp -dsimp (maxDischargeDepth := 9) only [go_sem, zA, zB, zC, zD, zE, zF, zG, gS, f5, f6, f14, g5, g6, g14, f17]
     obtain ⟨HH, RR, eq, hs1, back⟩ := accN_sub (r := b14) (qs := cps s1 c1 c2) (ps := [pcF rows a2, pcF out a]) (o := cvar s1 c1 c2) (l := [(b5, .var [.d (.str q.name), .d (.int .i64 ar)]), (b6, .var [.d (.str ⟨#[]⟩), .d (.int .i64 0), .d (.int .i64 0), .d (.int .i64 0), .d (.int .i64 0), .d (.int .i64 0), .d (.int .i64 0), .d (.str ⟨#[]⟩), .d (.int .i64 0), .d (.str ⟨#[]⟩), .d (.int .i64 0), .nils, .nils]), (b17, .var [.d (.int .i64 tk), .d (.str tn), .d (.int .i64 ti), .d (.slice (Tm.ds ta))])]) hacc2 (by simp only [hpS, eq_self, implies_true, f5, f6, f14, g5, g6, g14, f17]) (by simp only [hpS, eq_self, implies_true, ]) (by simp only [hpS, eq_self, implies_true, f5, f6, f14, f17])
     rw [eq]
     have hz := nunify_size k (.mk tk tn ti ta) s1
     have hy := nunify_names k (.mk tk tn ti ta) s1
     refine unify05_ok _ (.mk tk tn ti ta) (Nat.le_refl _) (Tm.smalls_mem hat _ (List.mem_of_getElem? hx2)) HH RR b14 s1 c1 c2 hs1 k (by omega) (by omega) _ (fun ar1 d1 d2 RA hac2 => ?_)
     generalize (nunify k (.mk tk tn ti ta) s1).1 = rw1 at hrun2 hac2 hz ⊢
     generalize (nunify k (.mk tk tn ti ta) s1).2 = s2 at hrun2 hac2 hz hy ⊢
     obtain ⟨RB, hbc, ebb, hnb⟩ := back _ _ hac2
     rw [ebb]
     have k5 := hnb b5 (by simp only [hpS, eq_self, implies_true, f5, f6, f14]) g5
     have k6 := hnb b6 (by simp only [hpS, eq_self, implies_true, f5, f6, f14]) g6
     have k17 := hnb b17 (by simp only [hpS, eq_self, implies_true, f17]) f17.2.2.2.2.2.2
     have k14 := hnb b14 (by simp only [hpS, eq_self, implies_true, f5, f6, f14]) g14
     have hok : okK [] RB [(b14, cvar s2 d1 d2), (b5, .var [.d (.str q.name), .d (.int .i64 ar)]), (b6, .var [.d (.str ⟨#[]⟩), .d (.int .i64 0), .d (.int .i64 0), .d (.int .i64 0), .d (.int .i64 0), .d (.int .i64 0), .d (.int .i64 0), .d (.str ⟨#[]⟩), .d (.int .i64 0), .d (.str ⟨#[]⟩), .d (.int .i64 0), .nils, .nils]), (b17, .var [.d (.int .i64 tk), .d (.str tn), .d (.int .i64 ti), .d (.slice (Tm.ds ta))])] := by simp only [hpS, eq_self, implies_true, f5, f6, f14, k5, k6, k14, k17, f17]
     simp -dsimp (maxDischargeDepth := 9) only [go_sem, zA, zB, zC, zD, zE, zF, zG, gS, f5, f6, f14, f17, k5, k6, k14, k17]
     rw [AccN.src (pre := []) (p := pcF rw1 ar1) (post := cps s2 d1 d2 ++ [pcF rows a2, pcF out a]) hbc hok]
     have hszs := szs_map (sz := 10) (f := Fl.d) (fun x => x.cs_length) rw1
     simp -dsimp (maxDischargeDepth := 9) only [go_sem, zA, zB, zC, zD, zE, zF, zG, gS, hszs]
     refine AccN.appTo (pre := pcF rw1 ar1 :: cps s2 d1 d2) (p := pcF rows a2) (post := [pcF out a]) hbc hok (by simp only [hpS, eq_self, implies_true, ]) (by simp only [List.length_map]; omega) (fun a4 R4 hac3 hn3 => ?_)
     have m5 := hn3 b5 (by simp only [hpS, eq_self, implies_true, f5, f6, f14]) k5
     have m6 := hn3 b6 (by simp only [hpS, eq_self, implies_true, f5, f6, f14]) k6
     have m14 := hn3 b14 (by simp only [hpS, eq_self, implies_true, f5, f6, f14]) k14
     have m17 := hn3 b17 (by simp only [hpS, eq_self, implies_true, f17]) k17
     have hac4 : AccN H [] (cps s2 d1 d2 ++ [pcF (rows ++ rw1) a4, pcF out a]) R4 := by
      have := AccN.without (pre := []) (p := pcF rw1 ar1) (post := cps s2 d1 d2 ++ [⟨39, 10, rows.map Fl.d ++ rw1.map Fl.d, a4⟩, pcF out a]) hac3
      simp only [pcF, List.map_append]; exact this
     simp -dsimp (maxDischargeDepth := 9) only [go_sem, zA, zB, zC, zD, zE, zF, zG, gS, f5, f6, f14, f17, m5, m6, m14, m17, hwk]
     refine roundQ_next (k + 1, rows ++ rw1, s2, d1, d2, a4, R4) _ ⟨rfl, hac4, ⟨m5, m6, m14⟩, q2', by rw [← hrun2]; simp, by simp only; omega, by simp only; omega, by simp only [List.length_append]; omega⟩ (by simp only; omega) (by simp -dsimp (maxDischargeDepth := 9) only [go_sem, zA, zB, zC, zD, zE, zF, zG, gS]) (leH_hp (by simp only [hpS, eq_self, implies_true, f5, f6, f14, f17, m5, m6, m14, m17]) (by simp only [hpS, eq_self, implies_true, f5, f6, f14, f17, m5, m6, m14, m17]))
    ·rw [drop_end (by have := of_decide_eq_false q2; omega)] at hrun2 hnx2 hnn2 hout2
     simp only [nheads, Tm.nodess, List.append_nil] at hrun2 hnx2 hnn2 hout2
     have hz := ngoal_size it.body s1
     have hy := ngoal_names it.body s1
     have hcl2 : nclause it nx = (nwhole (rows ++ (ngoal it.body s1).1), (ngoal it.body s1).2.next) := by simp only [nclause, ← hrun2]
     rw [hcl2] at hrun
     have hcn2 := nclause_next it nx
     rw [hcl2] at hcn2
     simp only at hrun hcn2
     simp -dsimp (maxDischargeDepth := 9) only [go_sem, zA, zB, zC, zD, zE, zF, zG, gS, q2, f5, f6, f14, g5, g6, g14, hit, hd]
     rw [← hgd]
     obtain ⟨HH, RR, eq, hs1, back⟩ := accN_sub (r := b14) (qs := cps s1 c1 c2) (ps := [pcF rows a2, pcF out a]) (o := cvar s1 c1 c2) (l := [(b5, .var [.d (.str q.name), .d (.int .i64 ar)]), (b6, .var [.d (.str ⟨#[]⟩), .d (.int .i64 0), .d (.int .i64 0), .d (.int .i64 0), .d (.int .i64 0), .d (.int .i64 0), .d (.int .i64 0), .d (.str ⟨#[]⟩), .d (.int .i64 0), .d (.str ⟨#[]⟩), .d (.int .i64 0), .nils, .nils])]) hacc2 (by simp only [hpS, eq_self, implies_true, f5, f6, f14, g5, g6, g14]) (by simp only [hpS, eq_self, implies_true, ]) (by simp only [hpS, eq_self, implies_true, f5, f6, f14])
     rw [eq]
     refine goal05_ok _ it.body (Nat.le_refl _) hit2.body HH RR b14 s1 c1 c2 hs1 (by omega) (by omega) _ (fun ar1 d1 d2 RA hac2 => ?_)
     generalize (ngoal it.body s1).1 = rw1 at hrun hac2 hz hcn2 ⊢
     generalize (ngoal it.body s1).2 = s2 at hrun hac2 hz hy hcn2 ⊢
     obtain ⟨RB, hbc, ebb, hnb⟩ := back _ _ hac2
     rw [ebb]
     have k5 := hnb b5 (by simp only [hpS, eq_self, implies_true, f5, f6, f14]) g5
     have k6 := hnb b6 (by simp only [hpS, eq_self, implies_true, f5, f6, f14]) g6
     have k14 := hnb b14 (by simp only [hpS, eq_self, implies_true, f5, f6, f14]) g14
     have hok : okK [] RB [(b14, cvar s2 d1 d2), (b5, .var [.d (.str q.name), .d (.int .i64 ar)]), (b6, .var [.d (.str ⟨#[]⟩), .d (.int .i64 0), .d (.int .i64 0), .d (.int .i64 0), .d (.int .i64 0), .d (.int .i64 0), .d (.int .i64 0), .d (.str ⟨#[]⟩), .d (.int .i64 0), .d (.str ⟨#[]⟩), .d (.int .i64 0), .nils, .nils])] := by simp only [hpS, eq_self, implies_true, f5, f6, f14, k5, k6, k14]
     simp -dsimp (maxDischargeDepth := 9) only [go_sem, zA, zB, zC, zD, zE, zF, zG, gS, f5, f6, f14, k5, k6, k14]
     rw [AccN.src (pre := []) (p := pcF rw1 ar1) (post := cps s2 d1 d2 ++ [pcF rows a2, pcF out a]) hbc hok]
     have hszs := szs_map (sz := 10) (f := Fl.d) (fun x => x.cs_length) rw1
     simp -dsimp (maxDischargeDepth := 9) only [go_sem, zA, zB, zC, zD, zE, zF, zG, gS, hszs]
     refine AccN.appTo (pre := pcF rw1 ar1 :: cps s2 d1 d2) (p := pcF rows a2) (post := [pcF out a]) hbc hok (by simp only [hpS, eq_self, implies_true, ]) (by simp only [List.length_map]; omega) (fun a4 R4 hac3 hn3 => ?_)
     have m5 := hn3 b5 (by simp only [hpS, eq_self, implies_true, f5, f6, f14]) k5
     have m6 := hn3 b6 (by simp only [hpS, eq_self, implies_true, f5, f6, f14]) k6
     have m14 := hn3 b14 (by simp only [hpS, eq_self, implies_true, f5, f6, f14]) k14
     have hac4 : AccN H [] (cps s2 d1 d2 ++ [pcF (rows ++ rw1) a4, pcF out a]) R4 := by
      have := AccN.without (pre := []) (p := pcF rw1 ar1) (post := cps s2 d1 d2 ++ [⟨39, 10, rows.map Fl.d ++ rw1.map Fl.d, a4⟩, pcF out a]) hac3
      simp only [pcF, List.map_append]; exact this
     simp -dsimp (maxDischargeDepth := 9) only [go_sem, zA, zB, zC, zD, zE, zF, zG, gS, f5, f6, f14, m5, m6, m14]
     have hok4 : okK [] R4 [(b14, cvar s2 d1 d2), (b5, .var [.d (.str q.name), .d (.int .i64 ar)]), (b6, .var [.d (.str ⟨#[]⟩), .d (.int .i64 0), .d (.int .i64 0), .d (.int .i64 0), .d (.int .i64 0), .d (.int .i64 0), .d (.int .i64 0), .d (.str ⟨#[]⟩), .d (.int .i64 0), .d (.str ⟨#[]⟩), .d (.int .i64 0), .nils, .nils])] := by simp only [hpS, eq_self, implies_true, f5, f6, f14, m5, m6, m14]
     refine ACall.frz [true] ?_
     simp only [frzM]
     refine AccN.deep (pre := cps s2 d1 d2) (p := pcF (rows ++ rw1) a4) (post := [pcF out a]) hac4 hok4 (fun R6 hac6 hn6 => ?_)
     have o5 := hn6 b5 m5
     have o6 := hn6 b6 m6
     have o14 := hn6 b14 m14
     refine whole05_ok (rows ++ rw1) (by simp only [List.length_append]; omega) _ _ ?_
     generalize hnw : nwhole (rows ++ rw1) = w at hrun ⊢
     obtain ⟨wk, wx, wy, wi, ⟨wcn, wca⟩, ⟨wpn, wpa⟩, wxs, wgs⟩ := w
     simp -dsimp (maxDischargeDepth := 9) only [go_sem, zA, zB, zC, zD, zE, zF, zG, gS, f5, f6, f14, o5, o6, o14, Fl.d, Fl.cs]
     refine newV_hp (fun b76 v76 f76 w76 => ?_)
     simp only [off_cons, off_nil] at f76
     simp -dsimp (maxDischargeDepth := 9) only [go_sem, zA, zB, zC, zD, zE, zF, zG, gS, f5, f6, f14, o5, o6, o14, f76]
     refine AccN.appTo (pre := cps s2 d1 d2) (p := pcF out a) (post := []) (ns := [(Fl.mk wk wx wy wi ⟨wcn, wca⟩ ⟨wpn, wpa⟩ wxs wgs).d]) hac6 (by simp only [hpS, eq_self, implies_true, f5, f6, f14, o5, o6, o14, f76]) (by simp only [hpS, eq_self, implies_true, ]) (by simp only [List.length_map, List.length_cons, List.length_nil]; omega) (fun a7 R7 hac7 hn7 => ?_)
     have p5 := hn7 b5 (by simp only [hpS, eq_self, implies_true, f5, f6, f14]) o5
     have p6 := hn7 b6 (by simp only [hpS, eq_self, implies_true, f5, f6, f14]) o6
     have p14 := hn7 b14 (by simp only [hpS, eq_self, implies_true, f5, f6, f14]) o14
     have p76 := hn7 b76 (by simp only [hpS, eq_self, implies_true, f76]) f76.2.2.2.2.2.2
     have hac8 : AccN H [] [pcF (out ++ [Fl.mk wk wx wy wi ⟨wcn, wca⟩ ⟨wpn, wpa⟩ wxs wgs]) a7] R7 := by
      have := AccN.without (pre := []) (p := pcS (s2.names.map (·.1)) d1) (AccN.without (pre := [pcS (s2.names.map (·.1)) d1]) (p := pcN (s2.names.map (·.2)) d2) hac7)
      simp only [pcF, List.map_append, List.map_cons, List.map_nil]; exact this
     simp -dsimp (maxDischargeDepth := 9) only [go_sem, zA, zB, zC, zD, zE, zF, zG, gS, f5, f6, f14, f76, p5, p6, p14, p76, hwj]
     refine roundQ_next (j + 1, out ++ [Fl.mk wk wx wy wi ⟨wcn, wca⟩ ⟨wpn, wpa⟩ wxs wgs], s2.next, a7, R7) _ ⟨rfl, hac8, ⟨p5, p6⟩, q1', by rw [← hrun]; simp, by simp only; omega, by simp [hout]⟩ (by simp only; omega) (by simp -dsimp (maxDischargeDepth := 9) only [go_sem, zA, zB, zC, zD, zE, zF, zG, gS]) (leH_hp (by simp only [hpS, eq_self, implies_true, f5, f6, f14, f76, p5, p6, p14, p76]) (by simp only [hpS, eq_self, implies_true, f5, f6, f14, f76, p5, p6, p14, p76]))
   ·rw [drop_end (by have := of_decide_eq_false q1; omega)] at hrun hnx
    simp only [nclauses, sumNodes, List.append_nil] at hrun hnx
    rw [← hrun] at hK
    simp only at hK
    simp -dsimp (maxDischargeDepth := 9) only [go_sem, zA, zB, zC, zD, zE, zF, zG, gS, q1, f5, f6, f51, f61]
    refine gif_split (fun q2 => ?_) (fun q2 => ?_)
    ·have e2 : 200 < nx := by have := of_decide_eq_true q2; omega
     rw [if_pos e2] at hK
     simp -dsimp (maxDischargeDepth := 9) only [go_sem, zA, zB, zC, zD, zE, zF, zG, gS, q2, f5, f6, f51, f61]
     refine retW_tup [true, true] ?_
     simp -dsimp (maxDischargeDepth := 9) only [go_sem, zA, zB, zC, zD, zE, zF, zG, gS, frzM]
     exact retW_drop (G := H) (leH_hp02 hacc.le (by simp only [hpS, eq_self, implies_true, f5, f6, f51, f61])) (retW_is hK)
    ·have e2 : ¬ 200 < nx := by have := of_decide_eq_false q2; omega
     rw [if_neg e2] at hK
     have hol : out.length ≤ 1048576 := by omega
     simp -dsimp (maxDischargeDepth := 9) only [go_sem, zA, zB, zC, zD, zE, zF, zG, gS, q2, f5, f6, f51, f61]
     refine newK_hp (fun b18 f18 => ?_)
     simp only [off_cons, off_nil] at f18
     have h18 := f18.2.2.2.2
     have h18H := hacc.le.free h18
     have hok : okK [] R [(b5, .var [.d (.str q.name), .d (.int .i64 ar)]), (b6, .var [.d (.str ⟨#[]⟩), .d (.int .i64 0), .d (.int .i64 0), .d (.int .i64 0), .d (.int .i64 0), .d (.int .i64 0), .d (.int .i64 0), .d (.str ⟨#[]⟩), .d (.int .i64 0), .d (.str ⟨#[]⟩), .d (.int .i64 0), .nils, .nils]), (b18, .var [.d (.str q.name), .d (.int .i64 ar), .d (.int .i64 nx), .d (.int .i64 0), .d (.int .i64 0), .d (.int .i64 0), .d (.int .i64 0), .d (.str ⟨#[]⟩), .d (.int .i64 0), .d (.str ⟨#[]⟩), .d (.int .i64 0), .nils, .nils])] := by simp only [hpS, eq_self, implies_true, f5, f6, f51, f61, f18]
     have hone := AccN.one (pre := []) hacc
     simp only at hone
     simp -dsimp (maxDischargeDepth := 9) only [go_sem, zA, zB, zC, zD, zE, zF, zG, gS, f5, f6, f51, f61, f18]
     refine andK_split (AccN.lenable (pre := []) (p := pcF out a) (post := []) hacc (by kernel_rfl)) ?_
     rw [AccN.len (pre := []) (p := pcF out a) (post := []) hacc hok]
     simp only [List.length_map]
     simp -dsimp (maxDischargeDepth := 9) only [go_sem, zA, zB, zC, zD, zE, zF, zG, gS, f5, f6, f51, f61, f18]
     refine gif_split (fun q3 => ?_) (fun q3 => ?_)
     ·have e3 : out = [] := List.length_eq_zero_iff.1 (by have := of_decide_eq_true q3; omega)
      subst e3
      simp only [FP.d, FP.cs, har, nbody, fRow, Fl.cs, Fl.ds, ky0, List.map_nil, List.cons_append, List.nil_append] at hK
      simp -dsimp (maxDischargeDepth := 9) only [go_sem, zA, zB, zC, zD, zE, zF, zG, gS, q3, f5, f6, f51, f61, f18]
      refine retW_tup [true, true] ?_
      simp -dsimp (maxDischargeDepth := 9) only [go_sem, zA, zB, zC, zD, zE, zF, zG, gS, frzM]
      exact retW_drop (G := H) (leH_hp02 hacc.le (by simp only [hpS, eq_self, implies_true, f5, f6, f51, f61, f18, h18H])) (retW_is hK)
     ·have e3 : out.length ≠ 0 := by have := of_decide_eq_false q3; omega
      simp -dsimp (maxDischargeDepth := 9) only [go_sem, zA, zB, zC, zD, zE, zF, zG, gS, q3, f5, f6, f51, f61, f18]
      refine gif_split (fun q4 => ?_) (fun q4 => ?_)
      ·obtain ⟨⟨gk, gx, gy, gi, ⟨gcn, gca⟩, ⟨gpn, gpa⟩, gxs, ggs⟩, rfl⟩ : ∃ g, out = [g] := List.length_eq_one_iff.1 (by have := of_decide_eq_true q4; omega)
       simp only [FP.d, FP.cs, har, nbody, Fl.cs, List.cons_append, List.nil_append] at hK
       rcases hacc.mid (pre := []) (p := pcF _ a) (post := []) with ⟨hb, _⟩ | ⟨b, v, ha0, h1, h2, hv, hH⟩
       ·simp at hb
       ·simp only [pcF, List.map_cons, List.map_nil, Fl.d, Fl.cs] at hH ha0
        subst ha0
        have n5 := eqn_some hH f51
        have n6 := eqn_some hH f61
        have n18 := eqn_some hH h18
        simp -dsimp (maxDischargeDepth := 9) only [go_sem, zA, zB, zC, zD, zE, zF, zG, gS, q4, f5, f6, f51, f61, f18, hH, n5, n6, n18]
        refine andK_split (by decide) ?_
        simp -dsimp (maxDischargeDepth := 9) only [go_sem, zA, zB, zC, zD, zE, zF, zG, gS, f5, f6, f51, f61, f18, hH, n5, n6, n18, Int.toNat_zero, List.getElem?_cons_zero]
        refine retW_tup [true, true] ?_
        simp -dsimp (maxDischargeDepth := 9) only [go_sem, zA, zB, zC, zD, zE, zF, zG, gS, frzM]
        exact retW_drop (G := H) (leH_hp02 hacc.le (by simp only [hpS, eq_self, implies_true, f5, f6, f51, f61, f18, h18H, hH, n5, n6, n18])) (retW_is hK)
      ·have e4 : out.length ≠ 1 := by have := of_decide_eq_false q4; omega
       have ew : nbody out = fRow 8 0 out := by
        rcases out with _ | ⟨a1, _ | ⟨a2, gs⟩⟩
        ·simp at e3
        ·simp at e4
        ·rfl
       rw [ew] at hK
       simp only [FP.d, FP.cs, har, fRow, Fl.cs, Fl.ds_map, ky0, List.map_nil, List.cons_append, List.nil_append] at hK
       simp -dsimp (maxDischargeDepth := 9) only [go_sem, zA, zB, zC, zD, zE, zF, zG, gS, q4, f5, f6, f51, f61, f18, hone]
       refine retW_tup [true, true] ?_
       simp -dsimp (maxDischargeDepth := 9) only [go_sem, zA, zB, zC, zD, zE, zF, zG, gS, frzM]
       refine AccN.deep (pre := []) (p := pcF out a) (post := []) hacc (by simp only [hpS, eq_self, implies_true, f5, f6, f51, f61, f18]) (fun R4 hacc4 hn4 => ?_)
       have m5 := hn4 b5 f51
       have m6 := hn4 b6 f61
       have m18 := hn4 b18 h18
       simp -dsimp (maxDischargeDepth := 9) only [go_sem, zA, zB, zC, zD, zE, zF, zG, gS, f5, f6, m5, m6, m18, f18]
       exact retW_drop (G := H) (leH_hp02 hacc4.le (by simp only [hpS, eq_self, implies_true, f5, f6, m5, m6, m18, f18, h18H])) (retW_is hK)
end Go.Aug

/- The reference's comparisons: of a thing with itself they say yes. -/
namespace Go.Aug
open Nat renaming reduceBEq → zA, reduceLT → zB, reduceAdd → zC, reduceSub → zD, reduceMul → zE, reduceLeDiff → zF
open Int renaming reduceLE → zG
open Go.Proofs
set_option maxRecDepth 100000
set_option linter.unusedSimpArgs false
attribute [local irreducible] hid andK letA onSome onVar onArr arrOnly onInt onBool onFunc onTup idxA ldV ldD addO appTo fillL slA srcK nilQ retW gif sgd sguard svc sops sdops sagain aopO aLoad aStore aBin aUn aConv aLen aIndexAddr aIndex aIndexAddrS aIndexS aSlice aAppend aBuild aBuildSlice aMakeSlice aField aFieldOf aCallOp deepK deepL frzM putE newK newV growV ACall roundQ thenQ inBlockQ sret cnd szs nilC onMap onRow aLookup aMapUpdate aMakeMap
attribute [local go_sem] Int.natCast_zero
theorem sameTerms_row {eb : EbG} (ts : List Tm) (hl : ts.length ≤ 1048576) (h : ∀ t ∈ ts, ∀ (H : Heap) (K : A → Heap → Prop), K (.d (.bool true)) H → ACall Tryd.prog (seatV eb) 136 [.d t.d, .d t.d] H K) (H : Heap) (K : A → Heap → Prop) (hK : K (.d (.bool true)) H) :
  ACall Tryd.prog (seatV eb) 109 [.d (.slice (ts.map Tm.d)), .d (.slice (ts.map Tm.d))] H K := by
 refine ACall.by mixed fn109 (by simp) ?_
 conv in s109 => cbv
 refine svc_start ?_
 simp -dsimp (maxDischargeDepth := 9) only [go_sem, zA, zB, zC, zD, zE, zF, zG, gS, decide_true]
 refine svc_loop (X := Nat) (fun j => [(0, .d (.slice (ts.map Tm.d))), (1, .d (.slice (ts.map Tm.d))), (12, .d (.int .i64 ts.length)), (13, .d (.int .i64 j))]) (fun j G => G = H ∧ j ≤ ts.length) (fun j => ts.length - j) 0 _ ⟨rfl, Nat.zero_le _⟩ (by simp -dsimp (maxDischargeDepth := 9) only [go_sem, zA, zB, zC, zD, zE, zF, zG, gS]) (fun _ _ h => h) ?_
 rintro j G ⟨hG, hj⟩
 subst hG
 simp -dsimp (maxDischargeDepth := 9) only [go_sem, zA, zB, zC, zD, zE, zF, zG, gS]
 refine gif_split (fun q1 => ?_) (fun q1 => ?_)
 ·have q1' : j < ts.length := by have := of_decide_eq_true q1; omega
  obtain ⟨t, hx⟩ := list_at q1'
  have hw := wrapN (k := j) (by omega)
  have ht := h t (List.mem_of_getElem? hx)
  obtain ⟨tk, tn, ti, ta⟩ := t
  simp -dsimp (maxDischargeDepth := 9) only [go_sem, zA, zB, zC, zD, zE, zF, zG, gS, q1, hx, Tm.d, Tm.cs]
  refine ht _ _ ?_
  simp -dsimp (maxDischargeDepth := 9) only [go_sem, zA, zB, zC, zD, zE, zF, zG, gS, hw]
  refine roundQ_next (j + 1) _ ⟨rfl, q1'⟩ (by omega) (by simp -dsimp (maxDischargeDepth := 9) only [go_sem, zA, zB, zC, zD, zE, zF, zG, gS]) (fun _ _ h => h)
 ·simp -dsimp (maxDischargeDepth := 9) only [go_sem, zA, zB, zC, zD, zE, zF, zG, gS, q1]
  exact retW_is hK
theorem sameTypes_row {eb : EbG} (ts : List Ty) (hl : ts.length ≤ 1048576) (h : ∀ t ∈ ts, ∀ (H : Heap) (K : A → Heap → Prop), K (.d (.bool true)) H → ACall Tryd.prog (seatV eb) 68 [.d t.d, .d t.d] H K) (H : Heap) (K : A → Heap → Prop) (hK : K (.d (.bool true)) H) :
  ACall Tryd.prog (seatV eb) 27 [.d (.slice (ts.map Ty.d)), .d (.slice (ts.map Ty.d))] H K := by
 refine ACall.by mixed fn27 (by simp) ?_
 conv in s27 => cbv
 refine svc_start ?_
 simp -dsimp (maxDischargeDepth := 9) only [go_sem, zA, zB, zC, zD, zE, zF, zG, gS, decide_true]
 refine svc_loop (X := Nat) (fun j => [(0, .d (.slice (ts.map Ty.d))), (1, .d (.slice (ts.map Ty.d))), (12, .d (.int .i64 ts.length)), (13, .d (.int .i64 j))]) (fun j G => G = H ∧ j ≤ ts.length) (fun j => ts.length - j) 0 _ ⟨rfl, Nat.zero_le _⟩ (by simp -dsimp (maxDischargeDepth := 9) only [go_sem, zA, zB, zC, zD, zE, zF, zG, gS]) (fun _ _ h => h) ?_
 rintro j G ⟨hG, hj⟩
 subst hG
 simp -dsimp (maxDischargeDepth := 9) only [go_sem, zA, zB, zC, zD, zE, zF, zG, gS]
 refine gif_split (fun q1 => ?_) (fun q1 => ?_)
 ·have q1' : j < ts.length := by have := of_decide_eq_true q1; omega
  obtain ⟨t, hx⟩ := list_at q1'
  have hw := wrapN (k := j) (by omega)
  have ht := h t (List.mem_of_getElem? hx)
  obtain ⟨tv, tn, ta⟩ := t
  simp -dsimp (maxDischargeDepth := 9) only [go_sem, zA, zB, zC, zD, zE, zF, zG, gS, q1, hx, Ty.d, Ty.cs]
  refine ht _ _ ?_
  simp -dsimp (maxDischargeDepth := 9) only [go_sem, zA, zB, zC, zD, zE, zF, zG, gS, hw]
  refine roundQ_next (j + 1) _ ⟨rfl, q1'⟩ (by omega) (by simp -dsimp (maxDischargeDepth := 9) only [go_sem, zA, zB, zC, zD, zE, zF, zG, gS]) (fun _ _ h => h)
 ·simp -dsimp (maxDischargeDepth := 9) only [go_sem, zA, zB, zC, zD, zE, zF, zG, gS, q1]
  exact retW_is hK
theorem sameTerm_self {eb : EbG} : ∀ (m : Nat) (t : Tm), t.nodes ≤ m → t.small → ∀ (H : Heap) (K : A → Heap → Prop), K (.d (.bool true)) H → ACall Tryd.prog (seatV eb) 136 [.d t.d, .d t.d] H K
 | 0, t, hm, _, _, _, _ => by have := t.nodes_pos; omega
 | m + 1, .mk k n i ts, hm, hs, H, K, hK => by
  simp only [Tm.nodes] at hm
  refine ACall.hp_start ?_
  refine ACall.by mixed fn136 (by simp) ?_
  conv in s136 => cbv
  refine svc_start ?_
  simp -dsimp (maxDischargeDepth := 9) only [go_sem, zA, zB, zC, zD, zE, zF, zG, gS, Tm.d, Tm.cs, Tm.ds_map]
  refine newK_hp (fun b2 f2 => ?_)
  simp only [off_cons, off_nil] at f2
  simp -dsimp (maxDischargeDepth := 9) only [go_sem, zA, zB, zC, zD, zE, zF, zG, gS, f2]
  refine newK_hp (fun b3 f3 => ?_)
  simp only [off_cons, off_nil] at f3
  simp -dsimp (maxDischargeDepth := 9) only [go_sem, zA, zB, zC, zD, zE, zF, zG, gS, f2, f3, decide_true]
  refine sameTerms_row ts (by have := hs.1; omega) (fun t ht => sameTerm_self m t (by have := Tm.nodess_mem ht; omega) (Tm.smalls_mem hs.2 t ht)) _ _ ?_
  simp -dsimp (maxDischargeDepth := 9) only [go_sem, zA, zB, zC, zD, zE, zF, zG, gS, f2, f3]
  exact retW_drop (G := H) (leH_hp0 (by simp only [hpS, eq_self, implies_true, f2, f3])) (retW_is hK)
theorem sameTerms_self {eb : EbG} (ts : List Tm) (hl : ts.length ≤ 1048576) (hs : Tm.smalls ts) (H : Heap) (K : A → Heap → Prop) (hK : K (.d (.bool true)) H) :
  ACall Tryd.prog (seatV eb) 109 [.d (.slice (ts.map Tm.d)), .d (.slice (ts.map Tm.d))] H K :=
 sameTerms_row ts hl (fun t ht => sameTerm_self t.nodes t (Nat.le_refl _) (Tm.smalls_mem hs t ht)) H K hK
mutual
def Ty.nodes : Ty → Nat
 | .mk _ _ xs => 1 + Ty.nodess xs
def Ty.nodess : List Ty → Nat
 | [] => 0
 | t :: ts => t.nodes + Ty.nodess ts
end
theorem Ty.nodess_mem {t : Ty} : ∀ {ts : List Ty}, t ∈ ts → t.nodes ≤ Ty.nodess ts
 | _ :: _, .head _ => by simp only [Ty.nodess]; omega
 | _ :: _, .tail _ h => by have := Ty.nodess_mem h; simp only [Ty.nodess]; omega
theorem sameType_self {eb : EbG} : ∀ (m : Nat) (t : Ty), t.nodes ≤ m → t.small → ∀ (H : Heap) (K : A → Heap → Prop), K (.d (.bool true)) H → ACall Tryd.prog (seatV eb) 68 [.d t.d, .d t.d] H K
 | 0, .mk v n ts, hm, _, _, _, _ => by simp only [Ty.nodes] at hm; omega
 | m + 1, .mk v n ts, hm, hs, H, K, hK => by
  simp only [Ty.nodes] at hm
  refine ACall.hp_start ?_
  refine ACall.by mixed fn68 (by simp) ?_
  conv in s68 => cbv
  refine svc_start ?_
  simp -dsimp (maxDischargeDepth := 9) only [go_sem, zA, zB, zC, zD, zE, zF, zG, gS, Ty.d, Ty.cs, Ty.ds_map]
  refine newK_hp (fun b2 f2 => ?_)
  simp only [off_cons, off_nil] at f2
  simp -dsimp (maxDischargeDepth := 9) only [go_sem, zA, zB, zC, zD, zE, zF, zG, gS, f2]
  refine newK_hp (fun b3 f3 => ?_)
  simp only [off_cons, off_nil] at f3
  simp -dsimp (maxDischargeDepth := 9) only [go_sem, zA, zB, zC, zD, zE, zF, zG, gS, f2, f3, decide_true, beq_self_eq_true]
  refine sameTypes_row ts (by have := hs.1; omega) (fun t ht => sameType_self m t (by have := Ty.nodess_mem ht; omega) (Ty.smalls_mem hs.2 t ht)) _ _ ?_
  simp -dsimp (maxDischargeDepth := 9) only [go_sem, zA, zB, zC, zD, zE, zF, zG, gS, f2, f3]
  exact retW_drop (G := H) (leH_hp0 (by simp only [hpS, eq_self, implies_true, f2, f3])) (retW_is hK)
theorem sameTypes_self {eb : EbG} (ts : List Ty) (hl : ts.length ≤ 1048576) (hs : Ty.smalls ts) (H : Heap) (K : A → Heap → Prop) (hK : K (.d (.bool true)) H) :
  ACall Tryd.prog (seatV eb) 27 [.d (.slice (ts.map Ty.d)), .d (.slice (ts.map Ty.d))] H K :=
 sameTypes_row ts hl (fun t ht => sameType_self t.nodes t (Nat.le_refl _) (Ty.smalls_mem hs t ht)) H K hK
end Go.Aug

/- The reference's comparisons: goals and items with themselves. -/
namespace Go.Aug
open Nat renaming reduceBEq → zA, reduceLT → zB, reduceAdd → zC, reduceSub → zD, reduceMul → zE, reduceLeDiff → zF
open Int renaming reduceLE → zG
open Go.Proofs
set_option maxRecDepth 100000
set_option linter.unusedSimpArgs false
attribute [local irreducible] hid andK letA onSome onVar onArr arrOnly onInt onBool onFunc onTup idxA ldV ldD addO appTo fillL slA srcK nilQ retW gif sgd sguard svc sops sdops sagain aopO aLoad aStore aBin aUn aConv aLen aIndexAddr aIndex aIndexAddrS aIndexS aSlice aAppend aBuild aBuildSlice aMakeSlice aField aFieldOf aCallOp deepK deepL frzM putE newK newV growV ACall roundQ thenQ inBlockQ sret cnd szs nilC onMap onRow aLookup aMapUpdate aMakeMap
attribute [local go_sem] Int.natCast_zero
set_option maxHeartbeats 4000000 in
theorem sameGoal_self {eb : EbG} : ∀ (m : Nat) (g : Gl), g.nodes ≤ m → g.small → ∀ (H : Heap) (K : A → Heap → Prop), K (.d (.bool true)) H → ACall Tryd.prog (seatV eb) 110 [.d g.d, .d g.d] H K
 | 0, g, hm, _, _, _, _ => by have := g.nodes_pos; omega
 | m + 1, .mk k (.mk k1 n1 i1 xs1) (.mk k2 n2 i2 xs2) n xs gs, hm, hs, H, K, hK => by
  obtain ⟨hsa, hsb, hxl, hsx, hgl, hsg⟩ := hs
  simp only [Gl.nodes] at hm
  have hta := fun H => sameTerm_self (eb := eb) _ (.mk k1 n1 i1 xs1) (Nat.le_refl _) hsa H
  have htb := fun H => sameTerm_self (eb := eb) _ (.mk k2 n2 i2 xs2) (Nat.le_refl _) hsb H
  refine ACall.hp_start ?_
  refine ACall.by mixed fn110 (by simp) ?_
  conv in s110 => cbv
  refine svc_start ?_
  simp -dsimp (maxDischargeDepth := 9) only [go_sem, zA, zB, zC, zD, zE, zF, zG, gS, Gl.d, Gl.cs, Tm.cs, List.cons_append, List.nil_append, Gl.ds_map]
  refine newK_hp (fun b2 f2 => ?_)
  simp only [off_cons, off_nil] at f2
  simp -dsimp (maxDischargeDepth := 9) only [go_sem, zA, zB, zC, zD, zE, zF, zG, gS, f2]
  refine newK_hp (fun b3 f3 => ?_)
  simp only [off_cons, off_nil] at f3
  simp -dsimp (maxDischargeDepth := 9) only [go_sem, zA, zB, zC, zD, zE, zF, zG, gS, f2, f3, decide_true]
  refine hta _ _ ?_
  simp -dsimp (maxDischargeDepth := 9) only [go_sem, zA, zB, zC, zD, zE, zF, zG, gS, f2, f3]
  refine htb _ _ ?_
  simp -dsimp (maxDischargeDepth := 9) only [go_sem, zA, zB, zC, zD, zE, zF, zG, gS, f2, f3]
  refine sameTerms_self xs (by omega) hsx _ _ ?_
  simp -dsimp (maxDischargeDepth := 9) only [go_sem, zA, zB, zC, zD, zE, zF, zG, gS, f2, f3, decide_true]
  refine svc_loop (X := Nat) (fun j => [(2, .ref b2 0), (3, .ref b3 0), (53, .d (.int .i64 gs.length)), (54, .d (.int .i64 j))]) (fun j G => G = hp H [(b2, .var [.d (.int .i64 k), .d (.int .i64 k1), .d (.str n1), .d (.int .i64 i1), .d (.slice (Tm.ds xs1)), .d (.int .i64 k2), .d (.str n2), .d (.int .i64 i2), .d (.slice (Tm.ds xs2)), .d (.str n), .d (.slice (xs.map Tm.d)), .d (.slice (gs.map Gl.d))]), (b3, .var [.d (.int .i64 k), .d (.int .i64 k1), .d (.str n1), .d (.int .i64 i1), .d (.slice (Tm.ds xs1)), .d (.int .i64 k2), .d (.str n2), .d (.int .i64 i2), .d (.slice (Tm.ds xs2)), .d (.str n), .d (.slice (xs.map Tm.d)), .d (.slice (gs.map Gl.d))])] ∧ j ≤ gs.length) (fun j => gs.length - j) 0 _ ⟨rfl, Nat.zero_le _⟩ (by simp -dsimp (maxDischargeDepth := 9) only [go_sem, zA, zB, zC, zD, zE, zF, zG, gS]) (leH_hp (by simp only [hpS, eq_self, implies_true, f2, f3]) (by simp only [hpS, eq_self, implies_true, f2, f3])) ?_
  rintro j G ⟨hG, hj⟩
  subst hG
  simp -dsimp (maxDischargeDepth := 9) only [go_sem, zA, zB, zC, zD, zE, zF, zG, gS]
  refine gif_split (fun q1 => ?_) (fun q1 => ?_)
  ·have q1' : j < gs.length := by have := of_decide_eq_true q1; omega
   obtain ⟨g, hx⟩ := list_at q1'
   have hw := wrapN (k := j) (by omega)
   have hgm := Gl.nodess_mem (List.mem_of_getElem? hx)
   have hg := fun H => sameGoal_self (eb := eb) m g (by omega) (Gl.smalls_mem hsg g (List.mem_of_getElem? hx)) H
   obtain ⟨gk, ⟨g1, m1, j1, y1⟩, ⟨g2, m2, j2, y2⟩, gn, gxs, ggs⟩ := g
   simp -dsimp (maxDischargeDepth := 9) only [go_sem, zA, zB, zC, zD, zE, zF, zG, gS, q1, hx, f2, f3, Gl.d, Gl.cs, Tm.cs, List.cons_append, List.nil_append]
   refine hg _ _ ?_
   simp -dsimp (maxDischargeDepth := 9) only [go_sem, zA, zB, zC, zD, zE, zF, zG, gS, f2, f3, hw]
   refine roundQ_next (j + 1) _ ⟨rfl, q1'⟩ (by omega) (by simp -dsimp (maxDischargeDepth := 9) only [go_sem, zA, zB, zC, zD, zE, zF, zG, gS]) (leH_hp (by simp only [hpS, eq_self, implies_true, f2, f3]) (by simp only [hpS, eq_self, implies_true, f2, f3]))
  ·simp -dsimp (maxDischargeDepth := 9) only [go_sem, zA, zB, zC, zD, zE, zF, zG, gS, q1, f2, f3]
   exact retW_drop (G := H) (leH_hp0 (by simp only [hpS, eq_self, implies_true, f2, f3])) (retW_is hK)
set_option maxHeartbeats 8000000 in
theorem sameItem_self {eb : EbG} (it : It) (hs : it.small) (H : Heap) (K : A → Heap → Prop) (hK : K (.d (.bool true)) H) : ACall Tryd.prog (seatV eb) 57 [.d it.d, .d it.d] H K := by
 obtain ⟨x1, x2, x3, x4, x5, x6, x7, x8, x9, x10, x11, x12, hbody, hd⟩ := it.opn
 have hgd : it.body.d = .agg [x1, x2, x3, x4, x5, x6, x7, x8, x9, x10, x11, x12] := by rw [Gl.d, hbody]
 have hgs := fun H => sameGoal_self (eb := eb) _ it.body (Nat.le_refl _) hs.body H
 rw [hgd] at hgs
 have hvl := hs.vars
 have hcl := hs.nct
 have hwl := hs.ways
 have htl := hs.types
 have hal := hs.args
 rw [hd]
 refine ACall.hp_start ?_
 refine ACall.by mixed fn57 (by simp) ?_
 conv in s57 => cbv
 refine svc_start ?_
 simp -dsimp (maxDischargeDepth := 9) only [go_sem, zA, zB, zC, zD, zE, zF, zG, gS]
 refine newK_hp (fun b2 f2 => ?_)
 simp only [off_cons, off_nil] at f2
 simp -dsimp (maxDischargeDepth := 9) only [go_sem, zA, zB, zC, zD, zE, zF, zG, gS, f2]
 refine newK_hp (fun b3 f3 => ?_)
 simp only [off_cons, off_nil] at f3
 simp -dsimp (maxDischargeDepth := 9) only [go_sem, zA, zB, zC, zD, zE, zF, zG, gS, f2, f3, decide_true]
 refine sameTypes_self it.types (by omega) htl.2 _ _ ?_
 simp -dsimp (maxDischargeDepth := 9) only [go_sem, zA, zB, zC, zD, zE, zF, zG, gS, f2, f3]
 refine sameTerms_self it.args (by omega) hal.2 _ _ ?_
 simp -dsimp (maxDischargeDepth := 9) only [go_sem, zA, zB, zC, zD, zE, zF, zG, gS, f2, f3]
 refine hgs _ _ ?_
 simp -dsimp (maxDischargeDepth := 9) only [go_sem, zA, zB, zC, zD, zE, zF, zG, gS, f2, f3]
 refine svc_loop (X := Nat) (fun j => [(2, .ref b2 0), (3, .ref b3 0), (80, .d (.int .i64 it.vars.length)), (81, .d (.int .i64 j))]) (fun j G => G = hp H [(b2, .var [.d (.int .i64 it.kind), .d (.str it.name), .d (.slice (it.vars.map .str)), .d (.slice (it.ctors.map Ct.d)), .d (.slice (it.types.map Ty.d)), .d (.slice (it.ways.map .bool)), .d (.int .i64 it.det), .d (.slice (it.args.map Tm.d)), .d x1, .d x2, .d x3, .d x4, .d x5, .d x6, .d x7, .d x8, .d x9, .d x10, .d x11, .d x12]), (b3, .var [.d (.int .i64 it.kind), .d (.str it.name), .d (.slice (it.vars.map .str)), .d (.slice (it.ctors.map Ct.d)), .d (.slice (it.types.map Ty.d)), .d (.slice (it.ways.map .bool)), .d (.int .i64 it.det), .d (.slice (it.args.map Tm.d)), .d x1, .d x2, .d x3, .d x4, .d x5, .d x6, .d x7, .d x8, .d x9, .d x10, .d x11, .d x12])] ∧ j ≤ it.vars.length) (fun j => it.vars.length - j) 0 _ ⟨rfl, Nat.zero_le _⟩ (by simp -dsimp (maxDischargeDepth := 9) only [go_sem, zA, zB, zC, zD, zE, zF, zG, gS]) (leH_hp (by simp only [hpS, eq_self, implies_true, f2, f3]) (by simp only [hpS, eq_self, implies_true, f2, f3])) ?_
 rintro j G ⟨hG, hj⟩
 subst hG
 simp -dsimp (maxDischargeDepth := 9) only [go_sem, zA, zB, zC, zD, zE, zF, zG, gS]
 refine gif_split (fun q1 => ?_) (fun q1 => ?_)
 ·have q1' : j < it.vars.length := by have := of_decide_eq_true q1; omega
  obtain ⟨u, hx⟩ := list_at q1'
  have hw := wrapN (k := j) (by omega)
  simp -dsimp (maxDischargeDepth := 9) only [go_sem, zA, zB, zC, zD, zE, zF, zG, gS, q1, hx, f2, f3, decide_true, hw]
  refine roundQ_next (j + 1) _ ⟨rfl, q1'⟩ (by omega) (by simp -dsimp (maxDischargeDepth := 9) only [go_sem, zA, zB, zC, zD, zE, zF, zG, gS]) (leH_hp (by simp only [hpS, eq_self, implies_true, f2, f3]) (by simp only [hpS, eq_self, implies_true, f2, f3]))
 simp -dsimp (maxDischargeDepth := 9) only [go_sem, zA, zB, zC, zD, zE, zF, zG, gS, q1, f2, f3]
 clear hj q1
 refine svc_loop (X := Nat) (fun j => [(2, .ref b2 0), (3, .ref b3 0), (98, .d (.int .i64 it.ways.length)), (99, .d (.int .i64 j))]) (fun j G => G = hp H [(b2, .var [.d (.int .i64 it.kind), .d (.str it.name), .d (.slice (it.vars.map .str)), .d (.slice (it.ctors.map Ct.d)), .d (.slice (it.types.map Ty.d)), .d (.slice (it.ways.map .bool)), .d (.int .i64 it.det), .d (.slice (it.args.map Tm.d)), .d x1, .d x2, .d x3, .d x4, .d x5, .d x6, .d x7, .d x8, .d x9, .d x10, .d x11, .d x12]), (b3, .var [.d (.int .i64 it.kind), .d (.str it.name), .d (.slice (it.vars.map .str)), .d (.slice (it.ctors.map Ct.d)), .d (.slice (it.types.map Ty.d)), .d (.slice (it.ways.map .bool)), .d (.int .i64 it.det), .d (.slice (it.args.map Tm.d)), .d x1, .d x2, .d x3, .d x4, .d x5, .d x6, .d x7, .d x8, .d x9, .d x10, .d x11, .d x12])] ∧ j ≤ it.ways.length) (fun j => it.ways.length - j) 0 _ ⟨rfl, Nat.zero_le _⟩ (by simp -dsimp (maxDischargeDepth := 9) only [go_sem, zA, zB, zC, zD, zE, zF, zG, gS]) (leH_hp (by simp only [hpS, eq_self, implies_true, f2, f3]) (by simp only [hpS, eq_self, implies_true, f2, f3])) ?_
 rintro j G ⟨hG, hj⟩
 subst hG
 simp -dsimp (maxDischargeDepth := 9) only [go_sem, zA, zB, zC, zD, zE, zF, zG, gS]
 refine gif_split (fun q1 => ?_) (fun q1 => ?_)
 ·have q1' : j < it.ways.length := by have := of_decide_eq_true q1; omega
  obtain ⟨u, hx⟩ := list_at q1'
  have hw := wrapN (k := j) (by omega)
  simp -dsimp (maxDischargeDepth := 9) only [go_sem, zA, zB, zC, zD, zE, zF, zG, gS, q1, hx, f2, f3, beq_self_eq_true, hw]
  refine roundQ_next (j + 1) _ ⟨rfl, q1'⟩ (by omega) (by simp -dsimp (maxDischargeDepth := 9) only [go_sem, zA, zB, zC, zD, zE, zF, zG, gS]) (leH_hp (by simp only [hpS, eq_self, implies_true, f2, f3]) (by simp only [hpS, eq_self, implies_true, f2, f3]))
 simp -dsimp (maxDischargeDepth := 9) only [go_sem, zA, zB, zC, zD, zE, zF, zG, gS, q1, f2, f3]
 clear hj q1
 refine svc_loop (X := Nat) (fun j => [(2, .ref b2 0), (3, .ref b3 0), (116, .d (.int .i64 it.ctors.length)), (117, .d (.int .i64 j))]) (fun j G => G = hp H [(b2, .var [.d (.int .i64 it.kind), .d (.str it.name), .d (.slice (it.vars.map .str)), .d (.slice (it.ctors.map Ct.d)), .d (.slice (it.types.map Ty.d)), .d (.slice (it.ways.map .bool)), .d (.int .i64 it.det), .d (.slice (it.args.map Tm.d)), .d x1, .d x2, .d x3, .d x4, .d x5, .d x6, .d x7, .d x8, .d x9, .d x10, .d x11, .d x12]), (b3, .var [.d (.int .i64 it.kind), .d (.str it.name), .d (.slice (it.vars.map .str)), .d (.slice (it.ctors.map Ct.d)), .d (.slice (it.types.map Ty.d)), .d (.slice (it.ways.map .bool)), .d (.int .i64 it.det), .d (.slice (it.args.map Tm.d)), .d x1, .d x2, .d x3, .d x4, .d x5, .d x6, .d x7, .d x8, .d x9, .d x10, .d x11, .d x12])] ∧ j ≤ it.ctors.length) (fun j => it.ctors.length - j) 0 _ ⟨rfl, Nat.zero_le _⟩ (by simp -dsimp (maxDischargeDepth := 9) only [go_sem, zA, zB, zC, zD, zE, zF, zG, gS]) (leH_hp (by simp only [hpS, eq_self, implies_true, f2, f3]) (by simp only [hpS, eq_self, implies_true, f2, f3])) ?_
 rintro j G ⟨hG, hj⟩
 subst hG
 simp -dsimp (maxDischargeDepth := 9) only [go_sem, zA, zB, zC, zD, zE, zF, zG, gS]
 refine gif_split (fun q1 => ?_) (fun q1 => ?_)
 ·have q1' : j < it.ctors.length := by have := of_decide_eq_true q1; omega
  obtain ⟨u, hx⟩ := list_at q1'
  have hw := wrapN (k := j) (by omega)
  have hc := hs.ctors u (List.mem_of_getElem? hx)
  obtain ⟨cn, ca⟩ := u
  simp -dsimp (maxDischargeDepth := 9) only [go_sem, zA, zB, zC, zD, zE, zF, zG, gS, q1, hx, f2, f3, Ct.d, Ct.cs, decide_true]
  refine sameTypes_self ca (by have := hc.1; simp only at this; omega) hc.2 _ _ ?_
  simp -dsimp (maxDischargeDepth := 9) only [go_sem, zA, zB, zC, zD, zE, zF, zG, gS, f2, f3, hw]
  refine roundQ_next (j + 1) _ ⟨rfl, q1'⟩ (by omega) (by simp -dsimp (maxDischargeDepth := 9) only [go_sem, zA, zB, zC, zD, zE, zF, zG, gS]) (leH_hp (by simp only [hpS, eq_self, implies_true, f2, f3]) (by simp only [hpS, eq_self, implies_true, f2, f3]))
 simp -dsimp (maxDischargeDepth := 9) only [go_sem, zA, zB, zC, zD, zE, zF, zG, gS, q1, f2, f3]
 exact retW_drop (G := H) (leH_hp0 (by simp only [hpS, eq_self, implies_true, f2, f3])) (retW_is hK)
theorem sameItems_self {eb : EbG} (ts : List It) (hl : ts.length ≤ 1048576) (h : ∀ t ∈ ts, t.small) (H : Heap) (K : A → Heap → Prop) (hK : K (.d (.bool true)) H) :
  ACall Tryd.prog (seatV eb) 22 [.d (.slice (ts.map It.d)), .d (.slice (ts.map It.d))] H K := by
 refine ACall.by mixed fn22 (by simp) ?_
 conv in s22 => cbv
 refine svc_start ?_
 simp -dsimp (maxDischargeDepth := 9) only [go_sem, zA, zB, zC, zD, zE, zF, zG, gS, decide_true]
 refine svc_loop (X := Nat) (fun j => [(0, .d (.slice (ts.map It.d))), (1, .d (.slice (ts.map It.d))), (12, .d (.int .i64 ts.length)), (13, .d (.int .i64 j))]) (fun j G => G = H ∧ j ≤ ts.length) (fun j => ts.length - j) 0 _ ⟨rfl, Nat.zero_le _⟩ (by simp -dsimp (maxDischargeDepth := 9) only [go_sem, zA, zB, zC, zD, zE, zF, zG, gS]) (fun _ _ h => h) ?_
 rintro j G ⟨hG, hj⟩
 subst hG
 simp -dsimp (maxDischargeDepth := 9) only [go_sem, zA, zB, zC, zD, zE, zF, zG, gS]
 refine gif_split (fun q1 => ?_) (fun q1 => ?_)
 ·have q1' : j < ts.length := by have := of_decide_eq_true q1; omega
  obtain ⟨t, hx⟩ := list_at q1'
  have hw := wrapN (k := j) (by omega)
  have ht := fun H => sameItem_self (eb := eb) t (h t (List.mem_of_getElem? hx)) H
  obtain ⟨x1, x2, x3, x4, x5, x6, x7, x8, x9, x10, x11, x12, hbody, hd⟩ := t.opn
  rw [hd] at ht
  simp -dsimp (maxDischargeDepth := 9) only [go_sem, zA, zB, zC, zD, zE, zF, zG, gS, q1, hx, hd]
  refine ht _ _ ?_
  simp -dsimp (maxDischargeDepth := 9) only [go_sem, zA, zB, zC, zD, zE, zF, zG, gS, hw]
  refine roundQ_next (j + 1) _ ⟨rfl, q1'⟩ (by omega) (by simp -dsimp (maxDischargeDepth := 9) only [go_sem, zA, zB, zC, zD, zE, zF, zG, gS]) (fun _ _ h => h)
 ·simp -dsimp (maxDischargeDepth := 9) only [go_sem, zA, zB, zC, zD, zE, zF, zG, gS, q1]
  exact retW_is hK
end Go.Aug

/- The errors' numbers; the program's comparison of flat goals, of a goal with itself. -/
namespace Go.Aug
open Nat renaming reduceBEq → zA, reduceLT → zB, reduceAdd → zC, reduceSub → zD, reduceMul → zE, reduceLeDiff → zF
open Int renaming reduceLE → zG
open Go.Proofs
set_option maxRecDepth 100000
set_option linter.unusedSimpArgs false
attribute [local irreducible] hid andK letA onSome onVar onArr arrOnly onInt onBool onFunc onTup idxA ldV ldD addO appTo fillL slA srcK nilQ retW gif sgd sguard svc sops sdops sagain aopO aLoad aStore aBin aUn aConv aLen aIndexAddr aIndex aIndexAddrS aIndexS aSlice aAppend aBuild aBuildSlice aMakeSlice aField aFieldOf aCallOp deepK deepL frzM putE newK newV growV ACall roundQ thenQ inBlockQ sret cnd szs nilC onMap onRow aLookup aMapUpdate aMakeMap
attribute [local go_sem] Int.natCast_zero
/-- All sentinels are known. -/
class OnAll (e : EbG) : Prop where
 on : ∀ g < 16, e.on g = true
instance {e : EbG} [h : OnAll e] : On e 1 := ⟨h.on 1 (by decide)⟩
instance {e : EbG} [h : OnAll e] : On e 2 := ⟨h.on 2 (by decide)⟩
def errsL : List Nat := [3, 4, 5, 2, 0, 6, 7, 8, 1, 9, 10, 11, 12, 13, 14, 15]
theorem numNil_ok {eb : EbG} (H : Heap) (K : A → Heap → Prop) (hK : K (.d (.int .i64 0)) H) : ACall Tryd.prog (seatV eb) 25 [.d (.raw .nilIface)] H K := by
 refine ACall.by mixed fn25 (by simp) ?_
 conv in s25 => cbv
 refine svc_start ?_
 simp -dsimp (maxDischargeDepth := 9) only [go_sem, zA, zB, zC, zD, zE, zF, zG, gS]
 refine andK_split rfl ?_
 simp -dsimp (maxDischargeDepth := 9) only [go_sem, zA, zB, zC, zD, zE, zF, zG, gS]
 exact retW_is hK
set_option maxHeartbeats 4000000 in
theorem num_ok {eb : EbG} [ho : OnAll eb] (n k : Nat) (hk : errsL[k]? = some n) (hf : ∀ j < k, ∀ m, errsL[j]? = some m → m ≠ n) (H : Heap) (K : A → Heap → Prop) (hK : K (.d (.int .i64 ((k + 1 : Nat) : Int))) H) : ACall Tryd.prog (seatV eb) 25 [.d (.sent n)] H K := by
 have hG : ∀ g < 16, (seatV eb).G g = some (.sent g) := fun g hg => if_pos (ho.on g hg)
 have g0 := hG 0 (by decide)
 have g1 := hG 1 (by decide)
 have g2 := hG 2 (by decide)
 have g3 := hG 3 (by decide)
 have g4 := hG 4 (by decide)
 have g5 := hG 5 (by decide)
 have g6 := hG 6 (by decide)
 have g7 := hG 7 (by decide)
 have g8 := hG 8 (by decide)
 have g9 := hG 9 (by decide)
 have g10 := hG 10 (by decide)
 have g11 := hG 11 (by decide)
 have g12 := hG 12 (by decide)
 have g13 := hG 13 (by decide)
 have g14 := hG 14 (by decide)
 have g15 := hG 15 (by decide)
 refine ACall.hp_start ?_
 refine ACall.by mixed fn25 (by simp) ?_
 conv in s25 => cbv
 refine svc_start ?_
 simp -dsimp (maxDischargeDepth := 9) only [go_sem, zA, zB, zC, zD, zE, zF, zG, gS]
 simp -dsimp (maxDischargeDepth := 9) only [go_sem, zA, zB, zC, zD, zE, zF, zG, gS, g0, g1, g2, g3, g4, g5, g6, g7, g8, g9, g10, g11, g12, g13, g14, g15]
 clear g0 g1 g2 g3 g4 g5 g6 g7 g8 g9 g10 g11 g12 g13 g14 g15
 have hall : ∀ m ∈ errsL, m < 16 := by decide
 have hgn := hG n (hall n (List.mem_of_getElem? hk))
 refine newV_hp (fun b24 v24 f24 w24 => ?_)
 simp only [off_cons, off_nil] at f24
 simp -dsimp (maxDischargeDepth := 9) only [go_sem, zA, zB, zC, zD, zE, zF, zG, gS, f24, List.length_cons, List.length_nil]
 have hE : errsL.map D.sent = [.sent 3, .sent 4, .sent 5, .sent 2, .sent 0, .sent 6, .sent 7, .sent 8, .sent 1, .sent 9, .sent 10, .sent 11, .sent 12, .sent 13, .sent 14, .sent 15] := rfl
 have hlen : errsL.length = 16 := rfl
 have hkl := (List.getElem?_eq_some_iff.1 hk).1
 refine svc_loop (X := Nat) (fun j => [(0, .d (.sent n)), (25, .own b24 v24), (26, .d (.int .i64 ((16 : Nat) : Int))), (27, .d (.int .i64 j))]) (fun j G => G = hp H [(b24, .arr 43 1 v24 (errsL.map D.sent))] ∧ j ≤ k) (fun j => 16 - j) 0 _ ⟨rfl, Nat.zero_le _⟩ (by simp -dsimp (maxDischargeDepth := 9) only [go_sem, zA, zB, zC, zD, zE, zF, zG, gS]) (leH_hp (by simp only [hpS, eq_self, implies_true, f24, hE]) (by simp only [hpS, eq_self, implies_true, f24, hE])) ?_
 rintro j G ⟨hGG, hj⟩
 subst hGG
 have q1 : decide ((j : Int) < ((16 : Nat) : Int)) = true := by simp; omega
 have q1' : j < errsL.length := by omega
 obtain ⟨m, hx⟩ := list_at q1'
 have hw := wrapN (k := j) (by omega)
 simp -dsimp (maxDischargeDepth := 9) only [go_sem, zA, zB, zC, zD, zE, zF, zG, gS, q1, q1', hx, f24, Option.map_some]
 have hgm := hG m (hall m (List.mem_of_getElem? hx))
 refine andK_split ⟨hgn, hgm⟩ ?_
 by_cases hjk : j = k
 ·subst hjk
  rw [hk] at hx
  cases hx
  simp -dsimp (maxDischargeDepth := 9) only [go_sem, zA, zB, zC, zD, zE, zF, zG, gS, f24, decide_true, hw]
  exact retW_drop (G := H) (leH_hp0 (by simp only [hpS, eq_self, implies_true, f24])) (retW_is hK)
 ·have hne : decide (n = m) = false := by
   have := hf j (by omega) m hx
   simp; omega
  simp -dsimp (maxDischargeDepth := 9) only [go_sem, zA, zB, zC, zD, zE, zF, zG, gS, f24, hne, hw]
  refine roundQ_next (j + 1) _ ⟨rfl, by omega⟩ (by omega) (by simp -dsimp (maxDischargeDepth := 9) only [go_sem, zA, zB, zC, zD, zE, zF, zG, gS]) (leH_hp (by simp only [hpS, eq_self, implies_true, f24]) (by simp only [hpS, eq_self, implies_true, f24]))
end Go.Aug

/- The program's comparison of flat goals: a goal with itself. -/
namespace Go.Aug
open Nat renaming reduceBEq → zA, reduceLT → zB, reduceAdd → zC, reduceSub → zD, reduceMul → zE, reduceLeDiff → zF
open Int renaming reduceLE → zG
open Go.Proofs
set_option maxRecDepth 100000
set_option linter.unusedSimpArgs false
attribute [local irreducible] hid andK letA onSome onVar onArr arrOnly onInt onBool onFunc onTup idxA ldV ldD addO appTo fillL slA srcK nilQ retW gif sgd sguard svc sops sdops sagain aopO aLoad aStore aBin aUn aConv aLen aIndexAddr aIndex aIndexAddrS aIndexS aSlice aAppend aBuild aBuildSlice aMakeSlice aField aFieldOf aCallOp deepK deepL frzM putE newK newV growV ACall roundQ thenQ inBlockQ sret cnd szs nilC onMap onRow aLookup aMapUpdate aMakeMap
attribute [local go_sem] Int.natCast_zero
theorem equalInts_self {eb : EbG} (xs : List Int) (hx : xs.length ≤ 1048576) (H : Heap) (K : A → Heap → Prop) (hK : K (.d (.bool true)) H) :
  ACall Tryd.prog (seatV eb) 77 [.d (.slice (xs.map (.int .i64))), .d (.slice (xs.map (.int .i64)))] H K := by
 refine ACall.by mixed fn77 (by simp) ?_
 conv in s77 => cbv
 refine svc_start ?_
 simp -dsimp (maxDischargeDepth := 9) only [go_sem, zA, zB, zC, zD, zE, zF, zG, gS, decide_true]
 refine svc_loop (X := Nat) (fun y => [(0, .d (.slice (xs.map (.int .i64)))), (1, .d (.slice (xs.map (.int .i64)))), (12, .d (.int .i64 xs.length)), (13, .d (.int .i64 y))])
  (fun y G => G = H ∧ y ≤ xs.length) (fun y => xs.length - y) 0 H ⟨rfl, Nat.zero_le _⟩ (by simp -dsimp (maxDischargeDepth := 9) only [go_sem, zA, zB, zC, zD, zE, zF, zG, gS]) (fun _ _ h => h) ?_
 rintro j G ⟨hG, hj⟩
 subst hG
 simp -dsimp (maxDischargeDepth := 9) only [go_sem, zA, zB, zC, zD, zE, zF, zG, gS]
 refine gif_split (fun q1 => ?_) (fun q1 => ?_)
 ·have q1' : j < xs.length := by have := of_decide_eq_true q1; omega
  obtain ⟨x, hx1⟩ := list_at q1'
  have hw := wrapN (k := j) (by omega)
  simp -dsimp (maxDischargeDepth := 9) only [go_sem, zA, zB, zC, zD, zE, zF, zG, gS, q1, hx1, decide_true, hw]
  refine roundQ_next (j + 1) G ⟨rfl, by omega⟩ (by omega) (by simp -dsimp (maxDischargeDepth := 9) only [go_sem, zA, zB, zC, zD, zE, zF, zG, gS]) (fun _ _ h => h)
 ·simp -dsimp (maxDischargeDepth := 9) only [go_sem, zA, zB, zC, zD, zE, zF, zG, gS, q1]
  exact retW_is hK
set_option maxHeartbeats 4000000 in
theorem eqFunc_self {eb : EbG} (gs : List Fl) (hl : gs.length ≤ 1099511627776) (h : ∀ g ∈ gs, ∀ (H : Heap) (K : A → Heap → Prop), K (.d (.bool true)) H → ACall Tryd.prog (seatV eb) 30 [.d g.d, .d g.d] H K) (H : Heap) (K : A → Heap → Prop) (hK : K (.d (.bool true)) H) :
  ACall Tryd.prog (seatV eb) 78 [.d (.slice (gs.map Fl.d)), .d (.slice (gs.map Fl.d)), .func 30 []] H K := by
 refine ACall.hp_start ?_
 refine ACall.by mixed fn78 (by simp) ?_
 conv in s78 => cbv
 refine svc_start ?_
 simp -dsimp (maxDischargeDepth := 9) only [go_sem, zA, zB, zC, zD, zE, zF, zG, gS, decide_true]
 refine svc_loop (X := Nat) (fun y => [(1, .d (.slice (gs.map Fl.d))), (2, .func 30 []), (15, .d (.slice (gs.map Fl.d))), (16, .d (.int .i64 gs.length)), (17, .d (.int .i64 y))])
  (fun y G => G = hp H [] ∧ y ≤ gs.length) (fun y => gs.length - y) 0 _ ⟨rfl, Nat.zero_le _⟩ (by simp -dsimp (maxDischargeDepth := 9) only [go_sem, zA, zB, zC, zD, zE, zF, zG, gS]) (fun _ _ h => h) ?_
 rintro j G ⟨hG, hj⟩
 rw [hG]
 simp -dsimp (maxDischargeDepth := 9) only [go_sem, zA, zB, zC, zD, zE, zF, zG, gS]
 refine gif_split (fun q1 => ?_) (fun q1 => ?_)
 ·have q1' : j < gs.length := by have := of_decide_eq_true q1; omega
  obtain ⟨g, hx1⟩ := list_at q1'
  have hw := wrapN (k := j) (by omega)
  have hg := h g (List.mem_of_getElem? hx1)
  have hc : callable Tryd.prog 30 = true := by kernel_rfl
  obtain ⟨gk, gx, gy, gi, ⟨gcn, gca⟩, ⟨gpn, gpa⟩, gxs, ggs⟩ := g
  simp -dsimp (maxDischargeDepth := 9) only [go_sem, zA, zB, zC, zD, zE, zF, zG, gS, q1, hx1, Fl.d, Fl.cs]
  refine newK_hp (fun b8 f8 => ?_)
  simp only [off_cons, off_nil] at f8
  simp -dsimp (maxDischargeDepth := 9) only [go_sem, zA, zB, zC, zD, zE, zF, zG, gS, f8, hx1, Fl.d, Fl.cs]
  refine newK_hp (fun b9 f9 => ?_)
  simp only [off_cons, off_nil] at f9
  simp -dsimp (maxDischargeDepth := 9) only [go_sem, zA, zB, zC, zD, zE, zF, zG, gS, f8, f9, hc, List.append_nil]
  refine hg _ _ ?_
  simp -dsimp (maxDischargeDepth := 9) only [go_sem, zA, zB, zC, zD, zE, zF, zG, gS, f8, f9, hw]
  refine roundQ_next (j + 1) _ ⟨rfl, by omega⟩ (by omega) (by simp -dsimp (maxDischargeDepth := 9) only [go_sem, zA, zB, zC, zD, zE, zF, zG, gS]) (leH_hp0 (by simp only [hpS, eq_self, implies_true, f8, f9]))
 ·simp -dsimp (maxDischargeDepth := 9) only [go_sem, zA, zB, zC, zD, zE, zF, zG, gS, q1]
  exact retW_is hK
set_option maxHeartbeats 4000000 in
theorem flatSame_self {eb : EbG} : ∀ (m : Nat) (f : Fl), f.nodes ≤ m → f.fit → ∀ (H : Heap) (K : A → Heap → Prop), K (.d (.bool true)) H → ACall Tryd.prog (seatV eb) 30 [.d f.d, .d f.d] H K
 | 0, .mk k x y i c p xs gs, hm, _, _, _, _ => by simp only [Fl.nodes] at hm; omega
 | m + 1, .mk k x y i ⟨cn, ca⟩ ⟨pn, pa⟩ xs gs, hm, hf, H, K, hK => by
  simp only [Fl.nodes] at hm
  obtain ⟨hx, hgl, hgs⟩ := hf
  refine ACall.hp_start ?_
  refine ACall.by mixed fn30 (by simp) ?_
  conv in s30 => cbv
  refine svc_start ?_
  simp -dsimp (maxDischargeDepth := 9) only [go_sem, zA, zB, zC, zD, zE, zF, zG, gS, Fl.d, Fl.cs, Fl.ds_map]
  refine newK_hp (fun b2 f2 => ?_)
  simp only [off_cons, off_nil] at f2
  simp -dsimp (maxDischargeDepth := 9) only [go_sem, zA, zB, zC, zD, zE, zF, zG, gS, f2]
  refine newK_hp (fun b3 f3 => ?_)
  simp only [off_cons, off_nil] at f3
  simp -dsimp (maxDischargeDepth := 9) only [go_sem, zA, zB, zC, zD, zE, zF, zG, gS, f2, f3, decide_true, Bool.and_self]
  refine equalInts_self xs hx _ _ ?_
  simp -dsimp (maxDischargeDepth := 9) only [go_sem, zA, zB, zC, zD, zE, zF, zG, gS, f2, f3]
  refine eqFunc_self gs hgl (fun g hg => flatSame_self m g (by have := Fl.nodess_mem hg; omega) (Fl.fits_mem hgs g hg)) _ _ ?_
  simp -dsimp (maxDischargeDepth := 9) only [go_sem, zA, zB, zC, zD, zE, zF, zG, gS, f2, f3]
  exact retW_drop (G := H) (leH_hp0 (by simp only [hpS, eq_self, implies_true, f2, f3])) (retW_is hK)
end Go.Aug

/- The law FlatBodies: the walk. -/
namespace Go.Aug
open Nat renaming reduceBEq → zA, reduceLT → zB, reduceAdd → zC, reduceSub → zD, reduceMul → zE, reduceLeDiff → zF
open Int renaming reduceLE → zG
open Go.Proofs
set_option maxRecDepth 100000
set_option linter.unusedSimpArgs false
attribute [local irreducible] hid andK letA onSome onVar onArr arrOnly onInt onBool onFunc onTup idxA ldV ldD addO appTo fillL slA srcK nilQ retW gif sgd sguard svc sops sdops sagain aopO aLoad aStore aBin aUn aConv aLen aIndexAddr aIndex aIndexAddrS aIndexS aSlice aAppend aBuild aBuildSlice aMakeSlice aField aFieldOf aCallOp deepK deepL frzM putE newK newV growV ACall roundQ thenQ inBlockQ sret cnd szs nilC onMap onRow aLookup aMapUpdate aMakeMap
attribute [local go_sem] Int.natCast_zero
theorem nflat_cases (l : List It) (x : Ix) (q : Ky) : ((nflat l x q).1 = 0 ∧ (nflat l x q).2.key = q) ∨ nflat l x q = (1, fp0) ∨ nflat l x q = (2, fp0) := by
 unfold nflat
 split
 ·exact .inr (.inl rfl)
 ·split
  ·exact .inr (.inl rfl)
  ·split
   ·exact .inr (.inr rfl)
   ·exact .inl ⟨rfl, rfl⟩
theorem fl0_fit : fl0.fit := ⟨Nat.zero_le _, Nat.zero_le _, trivial⟩
theorem nflat_fit {l : List It} (hl : Txt l) {x : Ix} (hp : ∀ p ∈ x.preds, PrAt l p) (q : Ky) : (nflat l x q).2.body.fit := by
 rcases nflat_cases l x q with ⟨h, _⟩ | h | h
 ·exact (nflat_in hl hp h).2.2.2.fit
 ·rw [h]; exact fl0_fit
 ·rw [h]; exact fl0_fit
theorem flat_hyps {l : List It} (hl : Txt l) {x : Ix} (hp : ∀ p ∈ x.preds, PrAt l p) (q : Ky) :
  (∀ p, pfind x.preds q = some p → 0 ≤ q.ar ∧ q.ar ≤ 1048576) ∧ (∀ p, pfind x.preds q = some p → p.clauses.length ≤ 1048576 ∧ (∀ c ∈ p.clauses, 0 ≤ c ∧ c < l.length) ∧ sumNodes (atIts l p.clauses) ≤ 549755813888) := by
 have hlen := hl.few
 refine ⟨fun p hpf => ?_, fun p hpf => ?_⟩
 ·have hok := (hp p (pfind_mem hpf).1).ar
  rw [(pfind_mem hpf).2] at hok; omega
 ·have hok := hp p (pfind_mem hpf).1
  exact ⟨by have := hok.few; omega, hok.range, sum_few hlen hl.nodes hok.few⟩
theorem flatten_any {eb : EbG} [ho1 : On eb 1] [ho2 : On eb 2] {l : List It} (hl : Txt l) {x : Ix} (hx : x.preds.length ≤ 519) (hp : ∀ p ∈ x.preds, PrAt l p) (q : Ky) (H : Heap) (K : A → Heap → Prop)
  (hK : K (.tup [.d (nflat l x q).2.d, .d (errD (nflat l x q).1)]) H) :
  ACall Tryd.prog (seatV eb) 15 [.d (.slice (l.map It.d)), .d x.d, .d q.d] H K :=
 flatten_ok l ⟨by have := hl.few; omega, hl.small⟩ x (by omega) q (flat_hyps hl hp q).1 (flat_hyps hl hp q).2 H K hK
theorem flatten05_any {eb : EbG} {l : List It} (hl : Txt l) {x : Ix} (hx : x.preds.length ≤ 519) (hp : ∀ p ∈ x.preds, PrAt l p) (q : Ky) (H : Heap) (K : A → Heap → Prop)
  (hK : K (.tup [.d (nflat l x q).2.d, .d (.int .i64 (errN (nflat l x q).1))]) H) :
  ACall Tryd.prog (seatV eb) 29 [.d (.slice (l.map It.d)), .d x.d, .d q.d] H K :=
 flatten05_ok l ⟨by have := hl.few; omega, hl.small⟩ x (by omega) q (flat_hyps hl hp q).1 (flat_hyps hl hp q).2 H K hK
theorem numFlat_ok {eb : EbG} [ho : OnAll eb] (l : List It) (x : Ix) (q : Ky) (H : Heap) (K : A → Heap → Prop) (hK : K (.d (.int .i64 (errN (nflat l x q).1))) H) : ACall Tryd.prog (seatV eb) 25 [.d (errD (nflat l x q).1)] H K := by
 rcases nflat_cases l x q with ⟨h, _⟩ | h | h
 ·rw [h] at hK ⊢; exact numNil_ok H K hK
 ·rw [h] at hK ⊢; exact num_ok 1 8 rfl (by decide) H K hK
 ·rw [h] at hK ⊢; exact num_ok 2 3 rfl (by decide) H K hK
abbrev pcK (l : List Ky) (a : A) : Pc := ⟨31, 2, l.map Ky.d, a⟩
set_option maxHeartbeats 16000000 in
theorem flatBodies_ok {eb : EbG} [ho : OnAll eb] (s : ByteArray) (k : Ky) (H : Heap) (K : A → Heap → Prop) (hK : K (.d (.bool true)) H) : ACall Tryd.prog (seatV eb) 8 [.d (.str s), .d k.d] H K := by
 obtain ⟨kn, ka⟩ := k
 refine ACall.hp_start ?_
 refine ACall.by mixed fn8 (by simp) ?_
 conv in s8 => cbv
 refine svc_start ?_
 simp -dsimp (maxDischargeDepth := 9) only [go_sem, zA, zB, zC, zD, zE, zF, zG, gS, Ky.d, Ky.cs]
 refine newK_hp (fun b3 f3 => ?_)
 simp only [off_cons, off_nil] at f3
 simp -dsimp (maxDischargeDepth := 9) only [go_sem, zA, zB, zC, zD, zE, zF, zG, gS, f3]
 refine alive13_ok _ _ ?_
 simp -dsimp (maxDischargeDepth := 9) only [go_sem, zA, zB, zC, zD, zE, zF, zG, gS, f3]
 refine named_ok _ s _ ?_
 cases hx : (rnamed s).2 with
 | none =>
  simp -dsimp (maxDischargeDepth := 9) only [go_sem, zA, zB, zC, zD, zE, zF, zG, gS, ixD, Option.getD_none, Option.isSome_none, Ix.d, Ix.cs, f3]
  refine newK_hp (fun b6 f6 => ?_)
  simp only [off_cons, off_nil] at f6
  simp -dsimp (maxDischargeDepth := 9) only [go_sem, zA, zB, zC, zD, zE, zF, zG, gS, f3, f6]
  exact retW_drop (G := H) (leH_hp0 (by simp only [hpS, eq_self, implies_true, f3, f6])) (retW_is hK)
 | some x =>
  obtain ⟨hl, hof⟩ := named_flat hx
  have htx := rtext_txt s
  have hpk := hof.at htx.small
  have hpl : x.preds.length ≤ 519 := by have := hof.few; have := htx.few; omega
  have hnm := fun (H : Heap) (K : A → Heap → Prop) (hK : K (.tup [.d (.slice ((rtext s).1.map It.d)), .d x.d, .d (.bool true)]) H) => named_ok (eb := eb) H s K (by rw [hl, hx]; exact hK)
  rw [hl]
  have hsi := fun H => sameItems_self (eb := eb) (rtext s).1 (by have := htx.few; omega) htx.small H
  generalize (rtext s).1 = l at hof htx hpk hnm hsi ⊢
  have hnn := fun q H => numFlat_ok (eb := eb) l x q H
  have hf1 := fun q H => flatten_any (eb := eb) htx hpl hpk q H
  have hf2 := fun q H => flatten05_any (eb := eb) htx hpl hpk q H
  have hft := fun q => nflat_fit htx hpk q
  generalize hfn : nflat l x = fn at hnn hf1 hf2 hft
  obtain ⟨xts, xcs, ps⟩ := x
  simp only at hpk hpl
  simp -dsimp (maxDischargeDepth := 9) only [go_sem, zA, zB, zC, zD, zE, zF, zG, gS, ixD, Option.getD_some, Option.isSome_some, Ix.d, Ix.cs, f3]
  refine newK_hp (fun b6 f6 => ?_)
  simp only [off_cons, off_nil] at f6
  simp -dsimp (maxDischargeDepth := 9) only [go_sem, zA, zB, zC, zD, zE, zF, zG, gS, f3, f6]
  refine newV_hp (fun b31 v31 f31 w31 => ?_)
  simp only [off_cons, off_nil] at f31
  simp -dsimp (maxDischargeDepth := 9) only [go_sem, zA, zB, zC, zD, zE, zF, zG, gS, f3, f6, f31]
  have hacc0 : AccN H [] [pcK [⟨kn, ka⟩] (.own b31 v31)] (upd H b31 (.arr 31 2 v31 [.agg [.str kn, .int .i64 ka]])) := (AccN.none H []).new (by simp only [hpS, eq_self, implies_true, ]) f31.2.2.2.2 w31
  have h0 : upd H b31 (.arr 31 2 v31 [.agg [.str kn, .int .i64 ka]]) b6 = none := upd_eq_none.2 ⟨eqn_false f31.2.2.2.1, f6.2.2⟩
  refine svc_loop (X := Nat × List Ky × A × Heap) (fun y => [(0, .d (.str s)), (5, .d (.slice (l.map It.d))), (6, .ref b6 0), (8, y.2.2.1), (33, .d (.slice (ps.map Pr.d))), (34, .d (.int .i64 ps.length)), (35, .d (.int .i64 y.1))])
   (fun y G => G = hp y.2.2.2 [(b6, .var [.d (.slice (xts.map It.d)), .d (.slice (xcs.map Cr.d)), .d (.slice (ps.map Pr.d))])] ∧ AccN H [] [pcK y.2.1 y.2.2.1] y.2.2.2 ∧ y.2.2.2 b6 = none ∧ y.1 ≤ ps.length ∧ y.2.1.length = y.1 + 1) (fun y => ps.length - y.1) (0, [⟨kn, ka⟩], .own b31 v31, upd H b31 (.arr 31 2 v31 [.agg [.str kn, .int .i64 ka]])) _ ⟨rfl, hacc0, h0, Nat.zero_le _, rfl⟩ (by simp -dsimp (maxDischargeDepth := 9) only [go_sem, zA, zB, zC, zD, zE, zF, zG, gS]) (by rw [hp_base (by simp only [hpS, eq_self, implies_true, f31])]; exact (leH_hp (by simp only [hpS, eq_self, implies_true, f3, f6, f31, setL_cons, setL_nil]) (by simp only [hpS, eq_self, implies_true, f3, f6, f31, setL_cons, setL_nil]))) ?_
  clear hacc0 h0
  rintro ⟨j, ks, a, R⟩ G ⟨hG, hacc, h6, hj, hkl⟩
  simp only at hG hacc h6 hj hkl
  subst hG
  simp -dsimp (maxDischargeDepth := 9) only [go_sem, zA, zB, zC, zD, zE, zF, zG, gS]
  refine gif_split (fun q1 => ?_) (fun q1 => ?_)
  ·have q1' : j < ps.length := by have := of_decide_eq_true q1; omega
   obtain ⟨⟨⟨pkn, pka⟩, pts, pms, pcs⟩, hp⟩ := list_at q1'
   have hw := wrapN (k := j) (by omega)
   simp -dsimp (maxDischargeDepth := 9) only [go_sem, zA, zB, zC, zD, zE, zF, zG, gS, q1, hp, f6, h6, Pr.d, Pr.cs]
   refine newK_hp (fun b10 f10 => ?_)
   simp only [off_cons, off_nil] at f10
   simp -dsimp (maxDischargeDepth := 9) only [go_sem, zA, zB, zC, zD, zE, zF, zG, gS, f6, h6, f10]
   refine newV_hp (fun b42 v42 f42 w42 => ?_)
   simp only [off_cons, off_nil] at f42
   simp -dsimp (maxDischargeDepth := 9) only [go_sem, zA, zB, zC, zD, zE, zF, zG, gS, f6, h6, f10, f42]
   refine AccN.appTo (pre := []) (p := pcK ks a) (post := []) (ns := [(⟨pkn, pka⟩ : Ky).d]) hacc (by simp only [hpS, eq_self, implies_true, f6, h6, f10, f42]) (by simp only [hpS, eq_self, implies_true, ]) (by simp only [List.length_map, List.length_cons, List.length_nil]; omega) (fun a2 R2 hacc2 hn2 => ?_)
   have k6 := hn2 b6 (by simp only [hpS, eq_self, implies_true, f6]) h6
   have k10 := hn2 b10 (by simp only [hpS, eq_self, implies_true, f10]) f10.2.2
   have k42 := hn2 b42 (by simp only [hpS, eq_self, implies_true, f42]) f42.2.2.2.2
   simp -dsimp (maxDischargeDepth := 9) only [go_sem, zA, zB, zC, zD, zE, zF, zG, gS, f6, f10, f42, k6, k10, k42, hw]
   have hacc3 : AccN H [] [pcK (ks ++ [⟨pkn, pka⟩]) a2] R2 := by
    simp only [pcK, List.map_append, List.map_cons, List.map_nil]; exact hacc2
   refine roundQ_next (j + 1, ks ++ [⟨pkn, pka⟩], a2, R2) _ ⟨rfl, hacc3, k6, q1', by simp [hkl]⟩ (by simp only; omega) (by simp -dsimp (maxDischargeDepth := 9) only [go_sem, zA, zB, zC, zD, zE, zF, zG, gS]) (leH_hp (by simp only [hpS, eq_self, implies_true, f6, f10, f42, k6, k10, k42]) (by simp only [hpS, eq_self, implies_true, f6, f10, f42, k6, k10, k42]))
  ·simp -dsimp (maxDischargeDepth := 9) only [go_sem, zA, zB, zC, zD, zE, zF, zG, gS, q1, f6, h6]
   have hok : okK [] R [(b6, .var [.d (.slice (xts.map It.d)), .d (.slice (xcs.map Cr.d)), .d (.slice (ps.map Pr.d))])] := by simp only [hpS, eq_self, implies_true, h6]
   refine andK_split (AccN.lenable (pre := []) (p := pcK ks a) (post := []) hacc (by kernel_rfl)) ?_
   rw [AccN.len (pre := []) (p := pcK ks a) (post := []) hacc hok]
   simp only [List.length_map]
   simp -dsimp (maxDischargeDepth := 9) only [go_sem, zA, zB, zC, zD, zE, zF, zG, gS, f6, h6]
   refine svc_deep 45 (by decide) ?_
   simp -dsimp (maxDischargeDepth := 9) only [go_sem, zA, zB, zC, zD, zE, zF, zG, gS, f6, h6]
   refine AccN.deep (pre := []) (p := pcK ks a) (post := []) hacc hok (fun R4 hacc4 hn4 => ?_)
   have k6 := hn4 b6 h6
   have hle4 := hacc4.le
   simp -dsimp (maxDischargeDepth := 9) only [go_sem, zA, zB, zC, zD, zE, zF, zG, gS, f6, k6]
   refine svc_loop (X := Nat) (fun y => [(0, .d (.str s)), (5, .d (.slice (l.map It.d))), (6, .ref b6 0), (45, .d (.slice (ks.map Ky.d))), (46, .d (.int .i64 ks.length)), (47, .d (.int .i64 y))])
    (fun y G => G = hp H [(b6, .var [.d (.slice (xts.map It.d)), .d (.slice (xcs.map Cr.d)), .d (.slice (ps.map Pr.d))])] ∧ y ≤ ks.length) (fun y => ks.length - y) 0 _ ⟨rfl, Nat.zero_le _⟩ (by simp -dsimp (maxDischargeDepth := 9) only [go_sem, zA, zB, zC, zD, zE, zF, zG, gS]) (leH_hp2 hle4 (by simp only [hpS, eq_self, implies_true, f6, k6]) (by simp only [hpS, eq_self, implies_true, f6, k6])) ?_
   rintro i G ⟨hG, hi⟩
   subst hG
   simp -dsimp (maxDischargeDepth := 9) only [go_sem, zA, zB, zC, zD, zE, zF, zG, gS]
   refine gif_split (fun q2 => ?_) (fun q2 => ?_)
   ·have q2' : i < ks.length := by have := of_decide_eq_true q2; omega
    obtain ⟨⟨qn, qa⟩, hq⟩ := list_at q2'
    have hwi := wrapN (k := i) (by omega)
    have hg1 := hf1 ⟨qn, qa⟩
    have hg2 := hf2 ⟨qn, qa⟩
    have hg3 := hnn ⟨qn, qa⟩
    have hg4 := hft ⟨qn, qa⟩
    generalize fn ⟨qn, qa⟩ = z at hg1 hg2 hg3 hg4
    obtain ⟨e, ⟨bkn, bka⟩, bv, body⟩ := z
    simp only at hg1 hg2 hg3 hg4
    have hs1 := fun H => same05_ok (eb := eb) body.nodes body body (Nat.le_refl _) hg4 hg4 H
    have hs2 := fun H => flatSame_self (eb := eb) body.nodes body (Nat.le_refl _) hg4 H
    simp only [eqB_self] at hs1
    obtain ⟨bk, bx, by', bi, ⟨bcn, bca⟩, ⟨bpn, bpa⟩, bxs, bgs⟩ := body
    simp -dsimp (maxDischargeDepth := 9) only [go_sem, zA, zB, zC, zD, zE, zF, zG, gS, q2, hq, f6, Ky.d, Ky.cs]
    refine newK_hp (fun b12 f12 => ?_)
    simp only [off_cons, off_nil] at f12
    simp -dsimp (maxDischargeDepth := 9) only [go_sem, zA, zB, zC, zD, zE, zF, zG, gS, f6, f12]
    refine hg1 _ _ ?_
    simp -dsimp (maxDischargeDepth := 9) only [go_sem, zA, zB, zC, zD, zE, zF, zG, gS, f6, f12, FP.d, FP.cs, Fl.cs, List.cons_append, List.nil_append]
    refine newK_hp (fun b13 f13 => ?_)
    simp only [off_cons, off_nil] at f13
    simp -dsimp (maxDischargeDepth := 9) only [go_sem, zA, zB, zC, zD, zE, zF, zG, gS, f6, f12, f13]
    refine hg2 _ _ ?_
    simp -dsimp (maxDischargeDepth := 9) only [go_sem, zA, zB, zC, zD, zE, zF, zG, gS, f6, f12, f13, FP.d, FP.cs, Fl.cs, List.cons_append, List.nil_append]
    refine newK_hp (fun b15 f15 => ?_)
    simp only [off_cons, off_nil] at f15
    simp -dsimp (maxDischargeDepth := 9) only [go_sem, zA, zB, zC, zD, zE, zF, zG, gS, f6, f12, f13, f15]
    refine hg3 _ _ ?_
    simp -dsimp (maxDischargeDepth := 9) only [go_sem, zA, zB, zC, zD, zE, zF, zG, gS, f6, f12, f13, f15, decide_true]
    refine hs1 _ _ ?_
    simp -dsimp (maxDischargeDepth := 9) only [go_sem, zA, zB, zC, zD, zE, zF, zG, gS, f6, f12, f13, f15, decide_true]
    refine hs2 _ _ ?_
    simp -dsimp (maxDischargeDepth := 9) only [go_sem, zA, zB, zC, zD, zE, zF, zG, gS, f6, f12, f13, f15, hwi]
    refine roundQ_next (i + 1) _ ⟨rfl, q2'⟩ (by omega) (by simp -dsimp (maxDischargeDepth := 9) only [go_sem, zA, zB, zC, zD, zE, zF, zG, gS]) (leH_hp (by simp only [hpS, eq_self, implies_true, f6, f12, f13, f15]) (by simp only [hpS, eq_self, implies_true, f6, f12, f13, f15]))
   ·simp -dsimp (maxDischargeDepth := 9) only [go_sem, zA, zB, zC, zD, zE, zF, zG, gS, q2, f6]
    refine hnm _ _ ?_
    simp -dsimp (maxDischargeDepth := 9) only [go_sem, zA, zB, zC, zD, zE, zF, zG, gS, f6, Ix.d, Ix.cs]
    refine newK_hp (fun b18 f18 => ?_)
    simp only [off_cons, off_nil] at f18
    simp -dsimp (maxDischargeDepth := 9) only [go_sem, zA, zB, zC, zD, zE, zF, zG, gS, f6, f18]
    refine hsi _ _ ?_
    simp -dsimp (maxDischargeDepth := 9) only [go_sem, zA, zB, zC, zD, zE, zF, zG, gS, f6, f18]
    exact retW_drop (G := H) (leH_hp0 (by simp only [hpS, eq_self, implies_true, f6, f18])) (retW_is hK)
end Go.Aug
