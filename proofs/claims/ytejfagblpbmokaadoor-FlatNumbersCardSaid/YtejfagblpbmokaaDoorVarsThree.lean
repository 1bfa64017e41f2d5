/- The contracts of flat.Vars and of the laws that range over it; conditions stand in each contract. -/
import Derived.Test.YtejfagblpbmokaaDoorVarsTwo
import Derived.Test.YtejfagblpbmokaaDoorFlatOne
import Derived.Test.YtejfagblpbmokaaDoorFlatTwo
set_option linter.all false
set_option linter.unusedVariables false
set_option linter.unusedSimpArgs false
set_option linter.unusedSectionVars false

/- The law FlatNumbers: the walk. -/
namespace Go.Aug
open Nat renaming reduceBEq → zA, reduceLT → zB, reduceAdd → zC, reduceSub → zD, reduceMul → zE, reduceLeDiff → zF
open Int renaming reduceLE → zG
open Go.Proofs
set_option maxRecDepth 100000
set_option linter.unusedSimpArgs false
attribute [local irreducible] hid andK letA onSome onVar onArr arrOnly onInt onBool onTup idxA ldV ldD addO appTo fillL slA srcK nilQ retW gif sgd sguard svc sops sdops sagain aopO aLoad aStore aBin aUn aConv aLen aIndexAddr aIndex aIndexAddrS aIndexS aSlice aAppend aBuild aBuildSlice aMakeSlice aField aFieldOf aCallOp deepK deepL frzM putE newK newV growV ACall roundQ thenQ inBlockQ sret cnd szs nilC onMap onRow aLookup aMapUpdate aMakeMap
attribute [local go_sem] Int.natCast_zero
set_option maxHeartbeats 8000000 in
theorem flatNumbers_ok {eb : EbG} [ho1 : On eb 1] [ho2 : On eb 2] (s : ByteArray) (H : Heap) (K : A → Heap → Prop) (hK : K (.d (.bool true)) H) : ACall Tryd.prog (seatV eb) 11 [.d (.str s)] H K := by
 refine ACall.hp_start ?_
 refine ACall.by mixed fn11 (by simp) ?_
 conv in s11 => cbv
 refine svc_start ?_
 simp -dsimp (maxDischargeDepth := 9) only [go_sem, zA, zB, zC, zD, zE, zF, zG, gS]
 refine alive13_ok _ _ ?_
 simp -dsimp (maxDischargeDepth := 9) only [go_sem, zA, zB, zC, zD, zE, zF, zG, gS]
 refine named_ok _ s _ ?_
 cases hx : (rnamed s).2 with
 | none =>
  simp -dsimp (maxDischargeDepth := 9) only [go_sem, zA, zB, zC, zD, zE, zF, zG, gS, ixD, Option.getD_none, Option.isSome_none, Ix.d, Ix.cs]
  refine newK_hp (fun b4 f4 => ?_)
  simp only [off_cons, off_nil] at f4
  simp -dsimp (maxDischargeDepth := 9) only [go_sem, zA, zB, zC, zD, zE, zF, zG, gS, f4]
  exact retW_drop (G := H) (leH_hp0 (by simp only [hpS, eq_self, implies_true, f4])) (retW_is hK)
 | some x =>
  obtain ⟨hl, hof⟩ := named_flat hx
  have htx := rtext_txt s
  rw [hl]
  generalize (rtext s).1 = l at hof htx ⊢
  have hpk := hof.at htx.small
  have hpl : x.preds.length ≤ 519 := by have := hof.few; have := htx.few; omega
  obtain ⟨xts, xcs, ps⟩ := x
  simp only at hpk hpl
  simp -dsimp (maxDischargeDepth := 9) only [go_sem, zA, zB, zC, zD, zE, zF, zG, gS, ixD, Option.getD_some, Option.isSome_some, Ix.d, Ix.cs]
  refine newK_hp (fun b4 f4 => ?_)
  simp only [off_cons, off_nil] at f4
  simp -dsimp (maxDischargeDepth := 9) only [go_sem, zA, zB, zC, zD, zE, zF, zG, gS, f4]
  refine svc_loop (X := Nat) (fun j => [(3, .d (.slice (l.map It.d))), (4, .ref b4 0), (23, .d (.slice (ps.map Pr.d))), (24, .d (.int .i64 ps.length)), (25, .d (.int .i64 j))])
   (fun j G => G = hp H [(b4, .var [.d (.slice (xts.map It.d)), .d (.slice (xcs.map Cr.d)), .d (.slice (ps.map Pr.d))])] ∧ j ≤ ps.length) (fun j => ps.length - j) 0 _ ⟨rfl, Nat.zero_le _⟩ (by simp -dsimp (maxDischargeDepth := 9) only [go_sem, zA, zB, zC, zD, zE, zF, zG, gS]) (leH_hp (by simp only [hpS, eq_self, implies_true, f4]) (by simp only [hpS, eq_self, implies_true, f4])) ?_
  rintro j G ⟨hG, hj⟩
  subst hG
  simp -dsimp (maxDischargeDepth := 9) only [go_sem, zA, zB, zC, zD, zE, zF, zG, gS]
  refine gif_split (fun q1 => ?_) (fun q1 => ?_)
  ·have q1' : j < ps.length := by have := of_decide_eq_true q1; omega
   obtain ⟨p, hp⟩ := list_at q1'
   have hok := hpk p (List.mem_of_getElem? hp)
   have hin := fun h0 => nflat_in htx (x := ⟨xts, xcs, ps⟩) hpk (q := p.key) h0
   obtain ⟨⟨pkn, pka⟩, pts, pms, pcs⟩ := p
   have hw := wrapN (k := j) (by omega)
   have har := hok.ar
   simp only at har hin
   simp -dsimp (maxDischargeDepth := 9) only [go_sem, zA, zB, zC, zD, zE, zF, zG, gS, q1, hp, f4, Pr.d, Pr.cs]
   refine newK_hp (fun b7 f7 => ?_)
   simp only [off_cons, off_nil] at f7
   simp -dsimp (maxDischargeDepth := 9) only [go_sem, zA, zB, zC, zD, zE, zF, zG, gS, f4, f7]
   refine flatten_at htx (x := ⟨xts, xcs, ps⟩) hpl hpk ⟨pkn, pka⟩ har.1 (by simp only; omega) _ _ ?_
   generalize nflat l ⟨xts, xcs, ps⟩ ⟨pkn, pka⟩ = z at hin ⊢
   obtain ⟨e, ⟨bkn, bka⟩, bv, body⟩ := z
   simp only at hin
   by_cases h0 : e = 0
   ·obtain ⟨hk1, hk2, hk3, hk4⟩ := hin h0
    cases hk1
    subst h0
    have hn0 : 0 ≤ bv := by have := har.1; omega
    have hk5 : body.okG (numIn bv.toNat) := hk4.mono fun v ⟨k, e1, e2⟩ => ⟨k, e1, by omega⟩
    have hvs := fun H K h => vars_ok (eb := eb) (n := bv.toNat) (by omega) body hk5 H K h
    have hnums := (Nums.nil bv.toNat).vars hk5
    generalize fVars body [] = vs at hvs hnums
    have hvl := hnums.len
    obtain ⟨bk, bx, by', bi, ⟨bcn, bca⟩, ⟨bpn, bpa⟩, bxs, bgs⟩ := body
    have hz : errD 0 = .raw .nilIface := rfl
    simp -dsimp (maxDischargeDepth := 9) only [go_sem, zA, zB, zC, zD, zE, zF, zG, gS, f4, f7, FP.d, FP.cs, Fl.cs, List.cons_append, List.nil_append, hz]
    refine newK_hp (fun b8 f8 => ?_)
    simp only [off_cons, off_nil] at f8
    simp -dsimp (maxDischargeDepth := 9) only [go_sem, zA, zB, zC, zD, zE, zF, zG, gS, f4, f7, f8]
    refine andK_split rfl ?_
    have hws : IntKind.i64.wrap (pka - 1) = pka - 1 := by rw [wrap64 (by have := har.1; omega) (by have := har.2; omega)]
    simp -dsimp (maxDischargeDepth := 9) only [go_sem, zA, zB, zC, zD, zE, zF, zG, gS, f4, f7, f8, hws]
    refine newK_hp (fun b10 f10 => ?_)
    simp only [off_cons, off_nil] at f10
    simp -dsimp (maxDischargeDepth := 9) only [go_sem, zA, zB, zC, zD, zE, zF, zG, gS, f4, f7, f8, f10]
    refine hvs _ _ ?_
    simp -dsimp (maxDischargeDepth := 9) only [go_sem, zA, zB, zC, zD, zE, zF, zG, gS, f4, f7, f8, f10]
    refine svc_range [(45, seqV vs), (3, .d (.slice (l.map It.d))), (4, .ref b4 0), (7, .ref b7 0), (8, .ref b8 0), (10, .ref b10 0), (23, .d (.slice (ps.map Pr.d))), (24, .d (.int .i64 ps.length)), (25, .d (.int .i64 j))]
     (fun _ G => ∃ mst : Int, mst < bv ∧ G = Aug.hp H [(b4, .var [.d (.slice (xts.map It.d)), .d (.slice (xcs.map Cr.d)), .d (.slice (ps.map Pr.d))]), (b7, .var [.d (.str pkn), .d (.int .i64 pka), .d (.slice (pts.map Ty.d)), .d (.slice (pms.map Md.d)), .d (.slice (pcs.map (.int .i64)))]), (b8, .var [.d (.str pkn), .d (.int .i64 pka), .d (.int .i64 bv), .d (.int .i64 bk), .d (.int .i64 bx), .d (.int .i64 by'), .d (.int .i64 bi), .d (.str bcn), .d (.int .i64 bca), .d (.str bpn), .d (.int .i64 bpa), .d (.slice (bxs.map (.int .i64))), .d (.slice (Fl.ds bgs))]), (b10, .var [.d (.int .i64 mst)])]) (fun _ _ => False) _ (by simp -dsimp (maxDischargeDepth := 9) only [go_sem, zA, zB, zC, zD, zE, zF, zG, gS]) callV2 (iterV_ok vs (by omega)) (fun z hz => by obtain ⟨v, _, rfl⟩ := List.mem_map.1 hz; rfl) ⟨pka - 1, by omega, rfl⟩ (by simp -dsimp (maxDischargeDepth := 9) only [go_sem, zA, zB, zC, zD, zE, zF, zG, gS]) (.refl _) ?_ ?_ (fun _ _ _ h => h.elim)
    ·rintro i z G hz ⟨mst, hm, rfl⟩
     rw [List.getElem?_map, Option.map_eq_some_iff] at hz
     obtain ⟨v, hv, rfl⟩ := hz
     obtain ⟨k, rfl, hk⟩ := hnums.mem v (List.mem_of_getElem? hv)
     simp -dsimp (maxDischargeDepth := 9) only [go_sem, zA, zB, zC, zD, zE, zF, zG, gS, f4, f7, f8, f10]
     exact rngK_next _ ⟨if (k : Int) > mst then k else mst, by split <;> omega, rfl⟩ (.refl _)
    ·rintro G ⟨mst, hm, rfl⟩
     have hq1 : decide (mst ≥ bv) = false := by simp; omega
     simp -dsimp (maxDischargeDepth := 9) only [go_sem, zA, zB, zC, zD, zE, zF, zG, gS, f4, f7, f8, f10, hq1, hw, keq, leq, decide_true]

     refine roundQ_next (j + 1) _ ⟨rfl, q1'⟩ (by omega) (by simp -dsimp (maxDischargeDepth := 9) only [go_sem, zA, zB, zC, zD, zE, zF, zG, gS]) (leH_hp (by simp only [hpS, eq_self, implies_true, f4, f7, f8, f10]) (by simp only [hpS, eq_self, implies_true, f4, f7, f8, f10]))
   ·have hz : errD e = .sent e := errD_ne h0
    obtain ⟨bk, bx, by', bi, ⟨bcn, bca⟩, ⟨bpn, bpa⟩, bxs, bgs⟩ := body
    simp -dsimp (maxDischargeDepth := 9) only [go_sem, zA, zB, zC, zD, zE, zF, zG, gS, f4, f7, FP.d, FP.cs, Fl.cs, List.cons_append, List.nil_append, hz]
    refine newK_hp (fun b8 f8 => ?_)
    simp only [off_cons, off_nil] at f8
    simp -dsimp (maxDischargeDepth := 9) only [go_sem, zA, zB, zC, zD, zE, zF, zG, gS, f4, f7, f8, hw]

    refine roundQ_next (j + 1) _ ⟨rfl, q1'⟩ (by omega) (by simp -dsimp (maxDischargeDepth := 9) only [go_sem, zA, zB, zC, zD, zE, zF, zG, gS]) (leH_hp (by simp only [hpS, eq_self, implies_true, f4, f7, f8]) (by simp only [hpS, eq_self, implies_true, f4, f7, f8]))
  ·simp -dsimp (maxDischargeDepth := 9) only [go_sem, zA, zB, zC, zD, zE, zF, zG, gS, q1, f4]
   exact retW_drop (G := H) (leH_hp0 (by simp only [hpS, eq_self, implies_true, f4])) (retW_is hK)
end Go.Aug
