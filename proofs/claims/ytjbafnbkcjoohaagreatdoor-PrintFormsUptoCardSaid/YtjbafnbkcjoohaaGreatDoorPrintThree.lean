/- The contracts of print.Source and of the reference's forms, and the example of augurlaw03; conditions stand in each contract. -/
import Derived.Test.YtjbafnbkcjoohaaGreatDoorPrintTwo
import Derived.Test.YtjbafnbkcjoohaaGreatDoorRunOne
import Derived.Deep.LoopGhost
import Derived.Test.YtjbafnbkcjoohaaGreatDoorFacts
import Derived.Test.YtjbafnbkcjoohaaGreatDoorAugFive
set_option linter.all false
set_option linter.unusedVariables false
set_option linter.unusedSimpArgs false
set_option linter.unusedSectionVars false

/- The reference's items. -/
namespace Go.Aug
open Go.Proofs
set_option maxRecDepth 100000
set_option linter.unusedSimpArgs false
attribute [local irreducible] hid andK letA onSome onVar onArr arrOnly onInt onBool onFunc onTup idxA ldV ldD addO ofPart appTo fillL slA srcK nilQ retW gif sgd sguard svc sops sdops sagain aopO aLoad aStore aBin aUn aConv aLen aIndexAddr aIndex aIndexAddrS aIndexS aSlice aAppend aBuild aBuildSlice aMakeSlice aField aFieldOf aCallOp deepK deepL frzM putE newK newV growV ACall roundQ thenQ inBlockQ sret cnd szs nilC onMap onRow aLookup aMapUpdate aMakeMap
variable {eb : Nat → Addr} {mm : Nat → Option Obj}

theorem ritem_ok (i : It) (ho : i.ok) (hs : D.sizes i.cs ≤ 1048576) (H : Heap) (K : A → Heap → Prop) (hK : K (.d (S i.t)) H) : ACall Tryz.prog (seatZ eb mm) 8 [.d i.d] H K := by
  obtain ⟨ik, iname, ivars, ictors, itypes, iins, idet, iargs, g⟩ := i
  obtain ⟨gk, ak, an, ai, aa, bk, bn, bi, ba, n, ga, gs, he⟩ := Gl.open g
  have hd : g.d = .agg [.int .i64 gk, .int .i64 ak, S an, .int .i64 ai, .slice (Tm.ds aa), .int .i64 bk, S bn, .int .i64 bi, .slice (Tm.ds ba), S n, .slice (Tm.ds ga), .slice (Gl.ds gs)] := by rw [he]; rfl
  have hid' : It.d ⟨ik, iname, ivars, ictors, itypes, iins, idet, iargs, g⟩ = .agg [.int .i64 ik, S iname, .slice (ivars.map S), .slice (ictors.map Ct.d), .slice (Ty.ds itypes), .slice (iins.map .bool), .int .i64 idet, .slice (Tm.ds iargs), .int .i64 gk, .int .i64 ak, S an, .int .i64 ai, .slice (Tm.ds aa), .int .i64 bk, S bn, .int .i64 bi, .slice (Tm.ds ba), S n, .slice (Tm.ds ga), .slice (Gl.ds gs)] := by rw [he]; rfl
  have hgk : g.kind = gk := by rw [he]; rfl
  have hsz : D.sizes (It.cs ⟨ik, iname, ivars, ictors, itypes, iins, idet, iargs, g⟩) = 1 + (iname.length + 1 + (D.sizes (ivars.map S) + 1 + (D.sizes (ictors.map Ct.d) + 1 + (D.sizes (Ty.ds itypes) + 1 + (D.sizes (iins.map .bool) + 1 + (1 + (D.sizes (Tm.ds iargs) + 1 + D.sizes g.cs))))))) := by
    simp only [It.cs, D.sizes, D.size, size_mk']
  rw [hsz] at hs
  have hcl : ictors.length ≤ 1048576 := by have := D.length_le (ictors.map Ct.d); rw [List.length_map] at this; omega
  have hvl : ivars.length ≤ 1048576 := by have := D.length_le (ivars.map S); rw [List.length_map] at this; omega
  have htl : itypes.length ≤ 1048576 := by have := D.length_le (Ty.ds itypes); rw [Ty.ds_map, List.length_map] at this; rw [Ty.ds_map] at hs; omega
  have hal : iargs.length ≤ 1048576 := by have := D.length_le (Tm.ds iargs); rw [Tm.ds_map, List.length_map] at this; rw [Tm.ds_map] at hs; omega
  have hil : iins.length ≤ 1048576 := by have := D.length_le (iins.map D.bool); rw [List.length_map] at this; omega
  have hvt := strs_tot ivars
  have hvr := rowT_len ivars
  have hit := ways_tot iins
  have hir := rowT_len (iins.map wayT)
  have htt := Ty.lens itypes
  have htr := rowT_len (Ty.ts itypes)
  have hat := Tm.lens iargs ho.1
  have har := rowT_len (Tm.ts iargs)
  have hct := Ct.lens ictors
  have hcj := join_len (ictors.map Ct.t) [32, 124, 32] (by decide)
  have hdl := detT_len idet
  have hgl := Gl.len g ho.2
  have htsub : ∀ t' ∈ itypes, D.sizes t'.cs ≤ 1048576 := fun t' ht' => by
    have := D.mem_le (l := Ty.ds itypes) (d := t'.d) (by rw [Ty.ds_map]; exact List.mem_map_of_mem ht')
    simp only [Ty.d, D.size] at this
    omega
  have hasub : ∀ t' ∈ iargs, D.sizes t'.cs ≤ 1048576 := fun t' ht' => by
    have := D.mem_le (l := Tm.ds iargs) (d := t'.d) (by rw [Tm.ds_map]; exact List.mem_map_of_mem ht')
    simp only [Tm.d, D.size] at this
    omega
  have hao := Tm.oks_mem ho.1
  have hgo := ho.2
  refine ACall.by mixed fn8 (by simp) ?_
  conv in s8 => cbv
  refine svc_start ?_
  rw [hid']
  simp -dsimp (maxDischargeDepth := 9) only [go_sem, Nat.reduceBEq, Nat.reduceLT, Nat.reduceAdd, Nat.reduceSub, Nat.reduceMul, Nat.reduceLeDiff, Int.reduceLE, Int.toNat_natCast, Int.natCast_nonneg, List.getElem?_map, List.length_map, Nat.zero_add, eq_self, Bool.not_true, Bool.not_false]
  refine newK_intro (fun b1 hb1 hn1 hm1 => ?_)
  simp -dsimp (maxDischargeDepth := 9) only [go_sem, Nat.reduceBEq, Nat.reduceLT, Nat.reduceAdd, Nat.reduceSub, Nat.reduceMul, Nat.reduceLeDiff, Int.reduceLE, Int.toNat_natCast, Int.natCast_nonneg, List.getElem?_map, List.length_map, Nat.zero_add, eq_self, Bool.not_true, Bool.not_false]
  refine gif_split (fun h => ?_) (fun h => ?_)
  · have hk : ik = 1 := of_decide_eq_true h
    simp -dsimp (maxDischargeDepth := 9) only [go_sem, Nat.reduceBEq, Nat.reduceLT, Nat.reduceAdd, Nat.reduceSub, Nat.reduceMul, Nat.reduceLeDiff, Int.reduceLE, Int.toNat_natCast, Int.natCast_nonneg, List.getElem?_map, List.length_map, Nat.zero_add, eq_self, Bool.not_true, Bool.not_false, h]
    refine newV_intro (fun b3 v3 hb3 hn3 hm3 hv3 => ?_)
    generalize hHB : upd H b1 _ = HB at hb3 hn3 hm3 ⊢
    have g1 := congrFun hHB b1
    rw [upd_same] at g1
    have g1 := g1.symm
    have hle : LeH H HB := by rw [← hHB]; exact leH_upd hb1 (.refl H)
    have e1 : eqn b1 b3 = false := hn3 b1 (by rw [g1]; rfl)
    simp -dsimp (maxDischargeDepth := 9) only [go_sem, Nat.reduceBEq, Nat.reduceLT, Nat.reduceAdd, Nat.reduceSub, Nat.reduceMul, Nat.reduceLeDiff, Int.reduceLE, Int.toNat_natCast, Int.natCast_nonneg, List.getElem?_map, List.length_map, Nat.zero_add, eq_self, Bool.not_true, Bool.not_false, e1, g1, hn3, hm3]
    refine svc_loop (X := Nat × A) (fun x => [(1, .ref b1 0), (4, x.2), (17, .d (.slice (ictors.map Ct.d))), (18, .d (.int .i64 ictors.length)), (19, .d (.int .i64 x.1))])
      (fun x G => x.1 ≤ ictors.length ∧ AccAt HB 9 1 ((ictors.take x.1).map fun t => S (Ct.t t)) x.2 G ∧ ∃ b v, x.2 = .own b v) (fun x => ictors.length - x.1) (0, .own b3 v3) _ ⟨by simp, AccAt.own (leH_upd hb3 (.refl HB)) hb3 hv3 (upd_same ..), _, _, rfl⟩ (by simp -dsimp (maxDischargeDepth := 9) only [go_sem, Nat.reduceBEq, Nat.reduceLT, Nat.reduceAdd, Nat.reduceSub, Nat.reduceMul, Nat.reduceLeDiff, Int.reduceLE, Int.toNat_natCast, Int.natCast_nonneg, List.getElem?_map, List.length_map, Nat.zero_add, eq_self, Bool.not_true, Bool.not_false]; simp) (.refl _) ?_
    rintro ⟨k, acc⟩ G ⟨hkk, hacc, hown⟩
    simp only at hkk hacc hown
    have g1' := hacc.le b1 _ g1
    simp -dsimp (maxDischargeDepth := 9) only [go_sem, Nat.reduceBEq, Nat.reduceLT, Nat.reduceAdd, Nat.reduceSub, Nat.reduceMul, Nat.reduceLeDiff, Int.reduceLE, Int.toNat_natCast, Int.natCast_nonneg, List.getElem?_map, List.length_map, Nat.zero_add, eq_self, Bool.not_true, Bool.not_false]
    refine gif_split (fun h2 => ?_) (fun h2 => ?_)
    · have hkl : k < ictors.length := by have := of_decide_eq_true h2; omega
      obtain ⟨x, hx⟩ : ∃ x, ictors[k]? = some x := ⟨ictors[k], List.getElem?_eq_getElem hkl⟩
      have hw : IntKind.i64.wrap ((k : Int) + 1) = ((k + 1 : Nat) : Int) := by rw [wrap_in (by omega) (by omega)]; omega
      have hmx : x ∈ ictors := List.mem_of_getElem? hx
      have hxs := D.mem_le (l := ictors.map Ct.d) (d := x.d) (List.mem_map_of_mem hmx)
      obtain ⟨xn, xa⟩ := x
      simp only [Ct.d, Ct.cs, D.size, D.sizes, size_mk'] at hxs
      have hxl : xa.length ≤ 1048576 := by have := D.length_le (Ty.ds xa); rw [Ty.ds_map, List.length_map] at this; rw [Ty.ds_map] at hxs; omega
      have hxt := Ty.lens xa
      have hxr := rowT_len (Ty.ts xa)
      have hxsub : ∀ t' ∈ xa, D.sizes t'.cs ≤ 1048576 := fun t' ht' => by
        have := D.mem_le (l := Ty.ds xa) (d := t'.d) (by rw [Ty.ds_map]; exact List.mem_map_of_mem ht')
        simp only [Ty.d, D.size] at this
        omega
      simp -dsimp (maxDischargeDepth := 9) only [go_sem, Nat.reduceBEq, Nat.reduceLT, Nat.reduceAdd, Nat.reduceSub, Nat.reduceMul, Nat.reduceLeDiff, Int.reduceLE, Int.toNat_natCast, Int.natCast_nonneg, List.getElem?_map, List.length_map, Nat.zero_add, eq_self, Bool.not_true, Bool.not_false, h2, hx]
      refine andK_split rfl ?_
      simp -dsimp (maxDischargeDepth := 9) only [go_sem, Nat.reduceBEq, Nat.reduceLT, Nat.reduceAdd, Nat.reduceSub, Nat.reduceMul, Nat.reduceLeDiff, Int.reduceLE, Int.toNat_natCast, Int.natCast_nonneg, List.getElem?_map, List.length_map, Nat.zero_add, eq_self, Bool.not_true, Bool.not_false, Ct.d, Ct.cs, D.cells]
      refine newK_intro (fun b7 hb7 hn7 hm7 => ?_)
      simp -dsimp (maxDischargeDepth := 9) only [go_sem, Nat.reduceBEq, Nat.reduceLT, Nat.reduceAdd, Nat.reduceSub, Nat.reduceMul, Nat.reduceLeDiff, Int.reduceLE, Int.toNat_natCast, Int.natCast_nonneg, List.getElem?_map, List.length_map, Nat.zero_add, eq_self, Bool.not_true, Bool.not_false]
      rw [upd_upd]
      refine rtypes_ok _ xa hxl (fun t ht' G K hK => rtype_ok t (hxsub t ht') G K hK) _ ?_
      simp -dsimp (maxDischargeDepth := 9) only [go_sem, Nat.reduceBEq, Nat.reduceLT, Nat.reduceAdd, Nat.reduceSub, Nat.reduceMul, Nat.reduceLeDiff, Int.reduceLE, Int.toNat_natCast, Int.natCast_nonneg, List.getElem?_map, List.length_map, Nat.zero_add, eq_self, Bool.not_true, Bool.not_false]
      refine rrow_ok _ (by omega) _ _ ?_
      simp -dsimp (maxDischargeDepth := 9) only [go_sem, Nat.reduceBEq, Nat.reduceLT, Nat.reduceAdd, Nat.reduceSub, Nat.reduceMul, Nat.reduceLeDiff, Int.reduceLE, Int.toNat_natCast, Int.natCast_nonneg, List.getElem?_map, List.length_map, Nat.zero_add, eq_self, Bool.not_true, Bool.not_false]
      refine andK_split (by simp only [List.size_toArray, List.length_cons, List.length_nil, List.length_append]; omega) ?_
      simp -dsimp (maxDischargeDepth := 9) only [go_sem, Nat.reduceBEq, Nat.reduceLT, Nat.reduceAdd, Nat.reduceSub, Nat.reduceMul, Nat.reduceLeDiff, Int.reduceLE, Int.toNat_natCast, Int.natCast_nonneg, List.getElem?_map, List.length_map, Nat.zero_add, eq_self, Bool.not_true, Bool.not_false, app_mk]
      refine newV_intro (fun b9 v9 hb9 hn9 hm9 hv9 => ?_)
      simp -dsimp (maxDischargeDepth := 9) only [go_sem, Nat.reduceBEq, Nat.reduceLT, Nat.reduceAdd, Nat.reduceSub, Nat.reduceMul, Nat.reduceLeDiff, Int.reduceLE, Int.toNat_natCast, Int.natCast_nonneg, List.getElem?_map, List.length_map, Nat.zero_add, eq_self, Bool.not_true, Bool.not_false]
      refine appTo_acc ((hacc.up hb7).up hb9) (by simp only [List.length_map, List.length_take, List.length_cons, List.length_nil]; omega) (fun a' G' hacc' => ?_)
      simp -dsimp (maxDischargeDepth := 9) only [go_sem, Nat.reduceBEq, Nat.reduceLT, Nat.reduceAdd, Nat.reduceSub, Nat.reduceMul, Nat.reduceLeDiff, Int.reduceLE, Int.toNat_natCast, Int.natCast_nonneg, List.getElem?_map, List.length_map, Nat.zero_add, eq_self, Bool.not_true, Bool.not_false, hw]
      refine roundQ_next (k + 1, a') _ ⟨by simp only; omega, ?_, acc_isOwn hacc' (by simp)⟩ (by simp only; omega) (by simp -dsimp (maxDischargeDepth := 9) only [go_sem, Nat.reduceBEq, Nat.reduceLT, Nat.reduceAdd, Nat.reduceSub, Nat.reduceMul, Nat.reduceLeDiff, Int.reduceLE, Int.toNat_natCast, Int.natCast_nonneg, List.getElem?_map, List.length_map, Nat.zero_add, eq_self, Bool.not_true, Bool.not_false]) (.refl _)
      simp only [take_snoc hx, List.map_append, List.map_cons, List.map_nil]
      exact hacc'
    have hkl : k = ictors.length := by have := of_decide_eq_false h2; omega
    subst hkl
    obtain ⟨bo, vo, rfl⟩ := hown
    rw [List.take_length] at hacc
    obtain ⟨ho1, ho2⟩ := acc_at hacc
    have ho2 : G bo = some (.arr 9 1 vo ((ictors.map Ct.t).map S)) := by rw [ho2, List.map_map]; rfl
    have hleG : LeH H G := hle.trans hacc.le
    simp -dsimp (maxDischargeDepth := 9) only [go_sem, Nat.reduceBEq, Nat.reduceLT, Nat.reduceAdd, Nat.reduceSub, Nat.reduceMul, Nat.reduceLeDiff, Int.reduceLE, Int.toNat_natCast, Int.natCast_nonneg, List.getElem?_map, List.length_map, Nat.zero_add, eq_self, Bool.not_true, Bool.not_false, h2, ho2, g1']
    have e1o : eqn b1 bo = false := eqn_ne (by rintro rfl; rw [g1'] at ho2; cases ho2)
    refine andK_split (by simp only [List.size_toArray, List.length_cons, List.length_nil, List.length_append]; omega) ?_
    simp -dsimp (maxDischargeDepth := 9) only [go_sem, Nat.reduceBEq, Nat.reduceLT, Nat.reduceAdd, Nat.reduceSub, Nat.reduceMul, Nat.reduceLeDiff, Int.reduceLE, Int.toNat_natCast, Int.natCast_nonneg, List.getElem?_map, List.length_map, Nat.zero_add, eq_self, Bool.not_true, Bool.not_false, app_mk]
    simp -dsimp (maxDischargeDepth := 9) only [go_sem, Nat.reduceBEq, Nat.reduceLT, Nat.reduceAdd, Nat.reduceSub, Nat.reduceMul, Nat.reduceLeDiff, Int.reduceLE, Int.toNat_natCast, Int.natCast_nonneg, List.getElem?_map, List.length_map, Nat.zero_add, eq_self, Bool.not_true, Bool.not_false, g1']
    refine rrow_ok ivars (by omega) _ _ ?_
    simp -dsimp (maxDischargeDepth := 9) only [go_sem, Nat.reduceBEq, Nat.reduceLT, Nat.reduceAdd, Nat.reduceSub, Nat.reduceMul, Nat.reduceLeDiff, Int.reduceLE, Int.toNat_natCast, Int.natCast_nonneg, List.getElem?_map, List.length_map, Nat.zero_add, eq_self, Bool.not_true, Bool.not_false, g1', ho2]
    refine andK_split (by simp only [List.size_toArray, List.length_cons, List.length_nil, List.length_append]; omega) ?_
    simp -dsimp (maxDischargeDepth := 9) only [go_sem, Nat.reduceBEq, Nat.reduceLT, Nat.reduceAdd, Nat.reduceSub, Nat.reduceMul, Nat.reduceLeDiff, Int.reduceLE, Int.toNat_natCast, Int.natCast_nonneg, List.getElem?_map, List.length_map, Nat.zero_add, eq_self, Bool.not_true, Bool.not_false, app_mk]
    refine andK_split (by simp only [List.size_toArray, List.length_cons, List.length_nil, List.length_append]; omega) ?_
    simp -dsimp (maxDischargeDepth := 9) only [go_sem, Nat.reduceBEq, Nat.reduceLT, Nat.reduceAdd, Nat.reduceSub, Nat.reduceMul, Nat.reduceLeDiff, Int.reduceLE, Int.toNat_natCast, Int.natCast_nonneg, List.getElem?_map, List.length_map, Nat.zero_add, eq_self, Bool.not_true, Bool.not_false, app_mk]
    refine ACall.frz [true, false] ?_
    simp -dsimp (maxDischargeDepth := 9) only [go_sem, Nat.reduceBEq, Nat.reduceLT, Nat.reduceAdd, Nat.reduceSub, Nat.reduceMul, Nat.reduceLeDiff, Int.reduceLE, Int.toNat_natCast, Int.natCast_nonneg, List.getElem?_map, List.length_map, Nat.zero_add, eq_self, Bool.not_true, Bool.not_false, ho2]
    refine rjoin_ok (ictors.map Ct.t) [32, 124, 32] (by decide) (by omega) _ _ ?_
    simp -dsimp (maxDischargeDepth := 9) only [go_sem, Nat.reduceBEq, Nat.reduceLT, Nat.reduceAdd, Nat.reduceSub, Nat.reduceMul, Nat.reduceLeDiff, Int.reduceLE, Int.toNat_natCast, Int.natCast_nonneg, List.getElem?_map, List.length_map, Nat.zero_add, eq_self, Bool.not_true, Bool.not_false, g1', e1o]
    refine andK_split (by simp only [List.size_toArray, List.length_cons, List.length_nil, List.length_append]; omega) ?_
    simp -dsimp (maxDischargeDepth := 9) only [go_sem, Nat.reduceBEq, Nat.reduceLT, Nat.reduceAdd, Nat.reduceSub, Nat.reduceMul, Nat.reduceLeDiff, Int.reduceLE, Int.toNat_natCast, Int.natCast_nonneg, List.getElem?_map, List.length_map, Nat.zero_add, eq_self, Bool.not_true, Bool.not_false, app_mk]
    refine andK_split (by simp only [List.size_toArray, List.length_cons, List.length_nil, List.length_append]; omega) ?_
    simp -dsimp (maxDischargeDepth := 9) only [go_sem, Nat.reduceBEq, Nat.reduceLT, Nat.reduceAdd, Nat.reduceSub, Nat.reduceMul, Nat.reduceLeDiff, Int.reduceLE, Int.toNat_natCast, Int.natCast_nonneg, List.getElem?_map, List.length_map, Nat.zero_add, eq_self, Bool.not_true, Bool.not_false, app_mk]
    exact retW_drop (leH_upd (hle.free ho1) hleG) (retW_is (by simpa only [It.t, It.t0, hk, if_true, ctorsT, List.cons_append, List.nil_append, List.append_assoc] using hK))
  have k1 : ¬ ik = 1 := of_decide_eq_false h
  simp -dsimp (maxDischargeDepth := 9) only [go_sem, Nat.reduceBEq, Nat.reduceLT, Nat.reduceAdd, Nat.reduceSub, Nat.reduceMul, Nat.reduceLeDiff, Int.reduceLE, Int.toNat_natCast, Int.natCast_nonneg, List.getElem?_map, List.length_map, Nat.zero_add, eq_self, Bool.not_true, Bool.not_false, h]
  refine gif_split (fun h => ?_) (fun h => ?_)
  · have hk : ik = 2 := of_decide_eq_true h
    simp -dsimp (maxDischargeDepth := 9) only [go_sem, Nat.reduceBEq, Nat.reduceLT, Nat.reduceAdd, Nat.reduceSub, Nat.reduceMul, Nat.reduceLeDiff, Int.reduceLE, Int.toNat_natCast, Int.natCast_nonneg, List.getElem?_map, List.length_map, Nat.zero_add, eq_self, Bool.not_true, Bool.not_false, h]
    refine andK_split (by simp only [List.size_toArray, List.length_cons, List.length_nil, List.length_append]; omega) ?_
    simp -dsimp (maxDischargeDepth := 9) only [go_sem, Nat.reduceBEq, Nat.reduceLT, Nat.reduceAdd, Nat.reduceSub, Nat.reduceMul, Nat.reduceLeDiff, Int.reduceLE, Int.toNat_natCast, Int.natCast_nonneg, List.getElem?_map, List.length_map, Nat.zero_add, eq_self, Bool.not_true, Bool.not_false, app_mk]
    refine rtypes_ok _ itypes htl (fun t ht' G K hK => rtype_ok t (htsub t ht') G K hK) _ ?_
    simp -dsimp (maxDischargeDepth := 9) only [go_sem, Nat.reduceBEq, Nat.reduceLT, Nat.reduceAdd, Nat.reduceSub, Nat.reduceMul, Nat.reduceLeDiff, Int.reduceLE, Int.toNat_natCast, Int.natCast_nonneg, List.getElem?_map, List.length_map, Nat.zero_add, eq_self, Bool.not_true, Bool.not_false]
    refine rrow_ok _ (by omega) _ _ ?_
    simp -dsimp (maxDischargeDepth := 9) only [go_sem, Nat.reduceBEq, Nat.reduceLT, Nat.reduceAdd, Nat.reduceSub, Nat.reduceMul, Nat.reduceLeDiff, Int.reduceLE, Int.toNat_natCast, Int.natCast_nonneg, List.getElem?_map, List.length_map, Nat.zero_add, eq_self, Bool.not_true, Bool.not_false]
    refine andK_split (by simp only [List.size_toArray, List.length_cons, List.length_nil, List.length_append]; omega) ?_
    simp -dsimp (maxDischargeDepth := 9) only [go_sem, Nat.reduceBEq, Nat.reduceLT, Nat.reduceAdd, Nat.reduceSub, Nat.reduceMul, Nat.reduceLeDiff, Int.reduceLE, Int.toNat_natCast, Int.natCast_nonneg, List.getElem?_map, List.length_map, Nat.zero_add, eq_self, Bool.not_true, Bool.not_false, app_mk]
    refine andK_split (by simp only [List.size_toArray, List.length_cons, List.length_nil, List.length_append]; omega) ?_
    simp -dsimp (maxDischargeDepth := 9) only [go_sem, Nat.reduceBEq, Nat.reduceLT, Nat.reduceAdd, Nat.reduceSub, Nat.reduceMul, Nat.reduceLeDiff, Int.reduceLE, Int.toNat_natCast, Int.natCast_nonneg, List.getElem?_map, List.length_map, Nat.zero_add, eq_self, Bool.not_true, Bool.not_false, app_mk]
    exact retW_drop (G := H) (leH_upd hb1 (.refl H)) (retW_is (by simpa only [It.t, It.t0, hk, if_neg (show ¬ (2 : Int) = 1 by decide), if_true, List.cons_append, List.nil_append, List.append_assoc] using hK))
  have k2 : ¬ ik = 2 := of_decide_eq_false h
  simp -dsimp (maxDischargeDepth := 9) only [go_sem, Nat.reduceBEq, Nat.reduceLT, Nat.reduceAdd, Nat.reduceSub, Nat.reduceMul, Nat.reduceLeDiff, Int.reduceLE, Int.toNat_natCast, Int.natCast_nonneg, List.getElem?_map, List.length_map, Nat.zero_add, eq_self, Bool.not_true, Bool.not_false, h]
  refine gif_split (fun h => ?_) (fun h => ?_)
  · have hk : ik = 3 := of_decide_eq_true h
    simp -dsimp (maxDischargeDepth := 9) only [go_sem, Nat.reduceBEq, Nat.reduceLT, Nat.reduceAdd, Nat.reduceSub, Nat.reduceMul, Nat.reduceLeDiff, Int.reduceLE, Int.toNat_natCast, Int.natCast_nonneg, List.getElem?_map, List.length_map, Nat.zero_add, eq_self, Bool.not_true, Bool.not_false, h]
    refine newV_intro (fun b3 v3 hb3 hn3 hm3 hv3 => ?_)
    generalize hHB : upd H b1 _ = HB at hb3 hn3 hm3 ⊢
    have g1 := congrFun hHB b1
    rw [upd_same] at g1
    have g1 := g1.symm
    have hle : LeH H HB := by rw [← hHB]; exact leH_upd hb1 (.refl H)
    have e1 : eqn b1 b3 = false := hn3 b1 (by rw [g1]; rfl)
    simp -dsimp (maxDischargeDepth := 9) only [go_sem, Nat.reduceBEq, Nat.reduceLT, Nat.reduceAdd, Nat.reduceSub, Nat.reduceMul, Nat.reduceLeDiff, Int.reduceLE, Int.toNat_natCast, Int.natCast_nonneg, List.getElem?_map, List.length_map, Nat.zero_add, eq_self, Bool.not_true, Bool.not_false, e1, g1, hn3, hm3]
    refine svc_loop (X := Nat × A) (fun x => [(1, .ref b1 0), (7, x.2), (59, .d (.slice (iins.map .bool))), (60, .d (.int .i64 iins.length)), (61, .d (.int .i64 x.1))])
      (fun x G => x.1 ≤ iins.length ∧ AccAt HB 9 1 ((iins.take x.1).map fun t => S (wayT t)) x.2 G ∧ ∃ b v, x.2 = .own b v) (fun x => iins.length - x.1) (0, .own b3 v3) _ ⟨by simp, AccAt.own (leH_upd hb3 (.refl HB)) hb3 hv3 (upd_same ..), _, _, rfl⟩ (by simp -dsimp (maxDischargeDepth := 9) only [go_sem, Nat.reduceBEq, Nat.reduceLT, Nat.reduceAdd, Nat.reduceSub, Nat.reduceMul, Nat.reduceLeDiff, Int.reduceLE, Int.toNat_natCast, Int.natCast_nonneg, List.getElem?_map, List.length_map, Nat.zero_add, eq_self, Bool.not_true, Bool.not_false]; simp) (.refl _) ?_
    rintro ⟨k, acc⟩ G ⟨hkk, hacc, hown⟩
    simp only at hkk hacc hown
    have g1' := hacc.le b1 _ g1
    simp -dsimp (maxDischargeDepth := 9) only [go_sem, Nat.reduceBEq, Nat.reduceLT, Nat.reduceAdd, Nat.reduceSub, Nat.reduceMul, Nat.reduceLeDiff, Int.reduceLE, Int.toNat_natCast, Int.natCast_nonneg, List.getElem?_map, List.length_map, Nat.zero_add, eq_self, Bool.not_true, Bool.not_false]
    refine gif_split (fun h2 => ?_) (fun h2 => ?_)
    · have hkl : k < iins.length := by have := of_decide_eq_true h2; omega
      obtain ⟨x, hx⟩ : ∃ x, iins[k]? = some x := ⟨iins[k], List.getElem?_eq_getElem hkl⟩
      have hw : IntKind.i64.wrap ((k : Int) + 1) = ((k + 1 : Nat) : Int) := by rw [wrap_in (by omega) (by omega)]; omega
      simp -dsimp (maxDischargeDepth := 9) only [go_sem, Nat.reduceBEq, Nat.reduceLT, Nat.reduceAdd, Nat.reduceSub, Nat.reduceMul, Nat.reduceLeDiff, Int.reduceLE, Int.toNat_natCast, Int.natCast_nonneg, List.getElem?_map, List.length_map, Nat.zero_add, eq_self, Bool.not_true, Bool.not_false, h2, hx]
      cases x with
      | true =>
        simp -dsimp (maxDischargeDepth := 9) only [go_sem, Nat.reduceBEq, Nat.reduceLT, Nat.reduceAdd, Nat.reduceSub, Nat.reduceMul, Nat.reduceLeDiff, Int.reduceLE, Int.toNat_natCast, Int.natCast_nonneg, List.getElem?_map, List.length_map, Nat.zero_add, eq_self, Bool.not_true, Bool.not_false]
        refine newV_intro (fun b9 v9 hb9 hn9 hm9 hv9 => ?_)
        simp -dsimp (maxDischargeDepth := 9) only [go_sem, Nat.reduceBEq, Nat.reduceLT, Nat.reduceAdd, Nat.reduceSub, Nat.reduceMul, Nat.reduceLeDiff, Int.reduceLE, Int.toNat_natCast, Int.natCast_nonneg, List.getElem?_map, List.length_map, Nat.zero_add, eq_self, Bool.not_true, Bool.not_false]
        refine appTo_acc (hacc.up hb9) (by simp only [List.length_map, List.length_take, List.length_cons, List.length_nil]; omega) (fun a' G' hacc' => ?_)
        simp -dsimp (maxDischargeDepth := 9) only [go_sem, Nat.reduceBEq, Nat.reduceLT, Nat.reduceAdd, Nat.reduceSub, Nat.reduceMul, Nat.reduceLeDiff, Int.reduceLE, Int.toNat_natCast, Int.natCast_nonneg, List.getElem?_map, List.length_map, Nat.zero_add, eq_self, Bool.not_true, Bool.not_false, hw]
        refine roundQ_next (k + 1, a') _ ⟨by simp only; omega, ?_, acc_isOwn hacc' (by simp)⟩ (by simp only; omega) (by simp -dsimp (maxDischargeDepth := 9) only [go_sem, Nat.reduceBEq, Nat.reduceLT, Nat.reduceAdd, Nat.reduceSub, Nat.reduceMul, Nat.reduceLeDiff, Int.reduceLE, Int.toNat_natCast, Int.natCast_nonneg, List.getElem?_map, List.length_map, Nat.zero_add, eq_self, Bool.not_true, Bool.not_false]) (.refl _)
        simp only [take_snoc hx, List.map_append, List.map_cons, List.map_nil]
        exact hacc'
      | false =>
        simp -dsimp (maxDischargeDepth := 9) only [go_sem, Nat.reduceBEq, Nat.reduceLT, Nat.reduceAdd, Nat.reduceSub, Nat.reduceMul, Nat.reduceLeDiff, Int.reduceLE, Int.toNat_natCast, Int.natCast_nonneg, List.getElem?_map, List.length_map, Nat.zero_add, eq_self, Bool.not_true, Bool.not_false]
        refine newV_intro (fun b9 v9 hb9 hn9 hm9 hv9 => ?_)
        simp -dsimp (maxDischargeDepth := 9) only [go_sem, Nat.reduceBEq, Nat.reduceLT, Nat.reduceAdd, Nat.reduceSub, Nat.reduceMul, Nat.reduceLeDiff, Int.reduceLE, Int.toNat_natCast, Int.natCast_nonneg, List.getElem?_map, List.length_map, Nat.zero_add, eq_self, Bool.not_true, Bool.not_false]
        refine appTo_acc (hacc.up hb9) (by simp only [List.length_map, List.length_take, List.length_cons, List.length_nil]; omega) (fun a' G' hacc' => ?_)
        simp -dsimp (maxDischargeDepth := 9) only [go_sem, Nat.reduceBEq, Nat.reduceLT, Nat.reduceAdd, Nat.reduceSub, Nat.reduceMul, Nat.reduceLeDiff, Int.reduceLE, Int.toNat_natCast, Int.natCast_nonneg, List.getElem?_map, List.length_map, Nat.zero_add, eq_self, Bool.not_true, Bool.not_false, hw]
        refine roundQ_next (k + 1, a') _ ⟨by simp only; omega, ?_, acc_isOwn hacc' (by simp)⟩ (by simp only; omega) (by simp -dsimp (maxDischargeDepth := 9) only [go_sem, Nat.reduceBEq, Nat.reduceLT, Nat.reduceAdd, Nat.reduceSub, Nat.reduceMul, Nat.reduceLeDiff, Int.reduceLE, Int.toNat_natCast, Int.natCast_nonneg, List.getElem?_map, List.length_map, Nat.zero_add, eq_self, Bool.not_true, Bool.not_false]) (.refl _)
        simp only [take_snoc hx, List.map_append, List.map_cons, List.map_nil]
        exact hacc'
    have hkl : k = iins.length := by have := of_decide_eq_false h2; omega
    subst hkl
    obtain ⟨bo, vo, rfl⟩ := hown
    rw [List.take_length] at hacc
    obtain ⟨ho1, ho2⟩ := acc_at hacc
    have ho2 : G bo = some (.arr 9 1 vo ((iins.map wayT).map S)) := by rw [ho2, List.map_map]; rfl
    have hleG : LeH H G := hle.trans hacc.le
    have e1o : eqn b1 bo = false := eqn_ne (by rintro rfl; rw [g1'] at ho2; cases ho2)
    simp -dsimp (maxDischargeDepth := 9) only [go_sem, Nat.reduceBEq, Nat.reduceLT, Nat.reduceAdd, Nat.reduceSub, Nat.reduceMul, Nat.reduceLeDiff, Int.reduceLE, Int.toNat_natCast, Int.natCast_nonneg, List.getElem?_map, List.length_map, Nat.zero_add, eq_self, Bool.not_true, Bool.not_false, h2, ho2, g1']
    refine andK_split (by simp only [List.size_toArray, List.length_cons, List.length_nil, List.length_append]; omega) ?_
    simp -dsimp (maxDischargeDepth := 9) only [go_sem, Nat.reduceBEq, Nat.reduceLT, Nat.reduceAdd, Nat.reduceSub, Nat.reduceMul, Nat.reduceLeDiff, Int.reduceLE, Int.toNat_natCast, Int.natCast_nonneg, List.getElem?_map, List.length_map, Nat.zero_add, eq_self, Bool.not_true, Bool.not_false, app_mk]
    refine ACall.frz [true] ?_
    simp -dsimp (maxDischargeDepth := 9) only [go_sem, Nat.reduceBEq, Nat.reduceLT, Nat.reduceAdd, Nat.reduceSub, Nat.reduceMul, Nat.reduceLeDiff, Int.reduceLE, Int.toNat_natCast, Int.natCast_nonneg, List.getElem?_map, List.length_map, Nat.zero_add, eq_self, Bool.not_true, Bool.not_false, ho2]
    refine rrow_ok _ (by omega) _ _ ?_
    simp -dsimp (maxDischargeDepth := 9) only [go_sem, Nat.reduceBEq, Nat.reduceLT, Nat.reduceAdd, Nat.reduceSub, Nat.reduceMul, Nat.reduceLeDiff, Int.reduceLE, Int.toNat_natCast, Int.natCast_nonneg, List.getElem?_map, List.length_map, Nat.zero_add, eq_self, Bool.not_true, Bool.not_false, g1', e1o]
    refine andK_split (by simp only [List.size_toArray, List.length_cons, List.length_nil, List.length_append]; omega) ?_
    simp -dsimp (maxDischargeDepth := 9) only [go_sem, Nat.reduceBEq, Nat.reduceLT, Nat.reduceAdd, Nat.reduceSub, Nat.reduceMul, Nat.reduceLeDiff, Int.reduceLE, Int.toNat_natCast, Int.natCast_nonneg, List.getElem?_map, List.length_map, Nat.zero_add, eq_self, Bool.not_true, Bool.not_false, app_mk]
    refine andK_split (by simp only [List.size_toArray, List.length_cons, List.length_nil, List.length_append]; omega) ?_
    simp -dsimp (maxDischargeDepth := 9) only [go_sem, Nat.reduceBEq, Nat.reduceLT, Nat.reduceAdd, Nat.reduceSub, Nat.reduceMul, Nat.reduceLeDiff, Int.reduceLE, Int.toNat_natCast, Int.natCast_nonneg, List.getElem?_map, List.length_map, Nat.zero_add, eq_self, Bool.not_true, Bool.not_false, app_mk]
    simp -dsimp (maxDischargeDepth := 9) only [go_sem, Nat.reduceBEq, Nat.reduceLT, Nat.reduceAdd, Nat.reduceSub, Nat.reduceMul, Nat.reduceLeDiff, Int.reduceLE, Int.toNat_natCast, Int.natCast_nonneg, List.getElem?_map, List.length_map, Nat.zero_add, eq_self, Bool.not_true, Bool.not_false, g1', e1o]
    refine gif_split (fun h => ?_) (fun h => ?_)
    · have hd1 : 1 ≤ idet := of_decide_eq_true h
      simp -dsimp (maxDischargeDepth := 9) only [go_sem, Nat.reduceBEq, Nat.reduceLT, Nat.reduceAdd, Nat.reduceSub, Nat.reduceMul, Nat.reduceLeDiff, Int.reduceLE, Int.toNat_natCast, Int.natCast_nonneg, List.getElem?_map, List.length_map, Nat.zero_add, eq_self, Bool.not_true, Bool.not_false, h, g1', e1o]
      refine gif_split (fun h => ?_) (fun h => ?_)
      · have hd4 : idet ≤ 4 := of_decide_eq_true h
        have : idet = 1 ∨ idet = 2 ∨ idet = 3 ∨ idet = 4 := by omega
        simp -dsimp (maxDischargeDepth := 9) only [go_sem, Nat.reduceBEq, Nat.reduceLT, Nat.reduceAdd, Nat.reduceSub, Nat.reduceMul, Nat.reduceLeDiff, Int.reduceLE, Int.toNat_natCast, Int.natCast_nonneg, List.getElem?_map, List.length_map, Nat.zero_add, eq_self, Bool.not_true, Bool.not_false, h, g1', e1o]
        refine newV_intro (fun b5 v5 hb5 hn5 hm5 hv5 => ?_)
        have e15 : eqn b1 b5 = false := hn5 b1 (by rw [upd_ne _ _ (of_decide_eq_false e1o), g1']; rfl)
        simp -dsimp (maxDischargeDepth := 9) only [go_sem, Nat.reduceBEq, Nat.reduceLT, Nat.reduceAdd, Nat.reduceSub, Nat.reduceMul, Nat.reduceLeDiff, Int.reduceLE, Int.toNat_natCast, Int.natCast_nonneg, List.getElem?_map, List.length_map, Nat.zero_add, eq_self, Bool.not_true, Bool.not_false, g1', e1o, e15]
        rcases this with rfl | rfl | rfl | rfl
        · have w : IntKind.i64.wrap (1 - 1) = ((0 : Nat) : Int) := by decide
          refine andK_split (by decide) ?_
          simp -dsimp (maxDischargeDepth := 9) only [go_sem, Nat.reduceBEq, Nat.reduceLT, Nat.reduceAdd, Nat.reduceSub, Nat.reduceMul, Nat.reduceLeDiff, Int.reduceLE, Int.toNat_natCast, Int.natCast_nonneg, List.getElem?_map, List.length_map, Nat.zero_add, eq_self, Bool.not_true, Bool.not_false, w, g1', e1o, e15]
          refine andK_split (by simp only [List.size_toArray, List.length_cons, List.length_nil, List.length_append]; omega) ?_
          simp -dsimp (maxDischargeDepth := 9) only [go_sem, Nat.reduceBEq, Nat.reduceLT, Nat.reduceAdd, Nat.reduceSub, Nat.reduceMul, Nat.reduceLeDiff, Int.reduceLE, Int.toNat_natCast, Int.natCast_nonneg, List.getElem?_map, List.length_map, Nat.zero_add, eq_self, Bool.not_true, Bool.not_false, app_mk]
          refine andK_split (by simp only [List.size_toArray, List.length_cons, List.length_nil, List.length_append]; omega) ?_
          simp -dsimp (maxDischargeDepth := 9) only [go_sem, Nat.reduceBEq, Nat.reduceLT, Nat.reduceAdd, Nat.reduceSub, Nat.reduceMul, Nat.reduceLeDiff, Int.reduceLE, Int.toNat_natCast, Int.natCast_nonneg, List.getElem?_map, List.length_map, Nat.zero_add, eq_self, Bool.not_true, Bool.not_false, app_mk]
          exact retW_drop (leH_upd (hle.free (hacc.le.free (upd_none hb5))) (leH_upd (hle.free ho1) hleG)) (retW_is (by simpa only [It.t, It.t0, hk, if_neg (show ¬ (3 : Int) = 1 by decide), if_neg (show ¬ (3 : Int) = 2 by decide), if_true, show detT 1 = [100, 101, 116] from rfl, List.cons_append, List.nil_append, List.append_assoc] using hK))
        · have w : IntKind.i64.wrap (2 - 1) = ((1 : Nat) : Int) := by decide
          refine andK_split (by decide) ?_
          simp -dsimp (maxDischargeDepth := 9) only [go_sem, Nat.reduceBEq, Nat.reduceLT, Nat.reduceAdd, Nat.reduceSub, Nat.reduceMul, Nat.reduceLeDiff, Int.reduceLE, Int.toNat_natCast, Int.natCast_nonneg, List.getElem?_map, List.length_map, Nat.zero_add, eq_self, Bool.not_true, Bool.not_false, w, g1', e1o, e15]
          refine andK_split (by simp only [List.size_toArray, List.length_cons, List.length_nil, List.length_append]; omega) ?_
          simp -dsimp (maxDischargeDepth := 9) only [go_sem, Nat.reduceBEq, Nat.reduceLT, Nat.reduceAdd, Nat.reduceSub, Nat.reduceMul, Nat.reduceLeDiff, Int.reduceLE, Int.toNat_natCast, Int.natCast_nonneg, List.getElem?_map, List.length_map, Nat.zero_add, eq_self, Bool.not_true, Bool.not_false, app_mk]
          refine andK_split (by simp only [List.size_toArray, List.length_cons, List.length_nil, List.length_append]; omega) ?_
          simp -dsimp (maxDischargeDepth := 9) only [go_sem, Nat.reduceBEq, Nat.reduceLT, Nat.reduceAdd, Nat.reduceSub, Nat.reduceMul, Nat.reduceLeDiff, Int.reduceLE, Int.toNat_natCast, Int.natCast_nonneg, List.getElem?_map, List.length_map, Nat.zero_add, eq_self, Bool.not_true, Bool.not_false, app_mk]
          exact retW_drop (leH_upd (hle.free (hacc.le.free (upd_none hb5))) (leH_upd (hle.free ho1) hleG)) (retW_is (by simpa only [It.t, It.t0, hk, if_neg (show ¬ (3 : Int) = 1 by decide), if_neg (show ¬ (3 : Int) = 2 by decide), if_true, show detT 2 = [115, 101, 109, 105, 100, 101, 116] from rfl, List.cons_append, List.nil_append, List.append_assoc] using hK))
        · have w : IntKind.i64.wrap (3 - 1) = ((2 : Nat) : Int) := by decide
          refine andK_split (by decide) ?_
          simp -dsimp (maxDischargeDepth := 9) only [go_sem, Nat.reduceBEq, Nat.reduceLT, Nat.reduceAdd, Nat.reduceSub, Nat.reduceMul, Nat.reduceLeDiff, Int.reduceLE, Int.toNat_natCast, Int.natCast_nonneg, List.getElem?_map, List.length_map, Nat.zero_add, eq_self, Bool.not_true, Bool.not_false, w, g1', e1o, e15]
          refine andK_split (by simp only [List.size_toArray, List.length_cons, List.length_nil, List.length_append]; omega) ?_
          simp -dsimp (maxDischargeDepth := 9) only [go_sem, Nat.reduceBEq, Nat.reduceLT, Nat.reduceAdd, Nat.reduceSub, Nat.reduceMul, Nat.reduceLeDiff, Int.reduceLE, Int.toNat_natCast, Int.natCast_nonneg, List.getElem?_map, List.length_map, Nat.zero_add, eq_self, Bool.not_true, Bool.not_false, app_mk]
          refine andK_split (by simp only [List.size_toArray, List.length_cons, List.length_nil, List.length_append]; omega) ?_
          simp -dsimp (maxDischargeDepth := 9) only [go_sem, Nat.reduceBEq, Nat.reduceLT, Nat.reduceAdd, Nat.reduceSub, Nat.reduceMul, Nat.reduceLeDiff, Int.reduceLE, Int.toNat_natCast, Int.natCast_nonneg, List.getElem?_map, List.length_map, Nat.zero_add, eq_self, Bool.not_true, Bool.not_false, app_mk]
          exact retW_drop (leH_upd (hle.free (hacc.le.free (upd_none hb5))) (leH_upd (hle.free ho1) hleG)) (retW_is (by simpa only [It.t, It.t0, hk, if_neg (show ¬ (3 : Int) = 1 by decide), if_neg (show ¬ (3 : Int) = 2 by decide), if_true, show detT 3 = [109, 117, 108, 116, 105] from rfl, List.cons_append, List.nil_append, List.append_assoc] using hK))
        · have w : IntKind.i64.wrap (4 - 1) = ((3 : Nat) : Int) := by decide
          refine andK_split (by decide) ?_
          simp -dsimp (maxDischargeDepth := 9) only [go_sem, Nat.reduceBEq, Nat.reduceLT, Nat.reduceAdd, Nat.reduceSub, Nat.reduceMul, Nat.reduceLeDiff, Int.reduceLE, Int.toNat_natCast, Int.natCast_nonneg, List.getElem?_map, List.length_map, Nat.zero_add, eq_self, Bool.not_true, Bool.not_false, w, g1', e1o, e15]
          refine andK_split (by simp only [List.size_toArray, List.length_cons, List.length_nil, List.length_append]; omega) ?_
          simp -dsimp (maxDischargeDepth := 9) only [go_sem, Nat.reduceBEq, Nat.reduceLT, Nat.reduceAdd, Nat.reduceSub, Nat.reduceMul, Nat.reduceLeDiff, Int.reduceLE, Int.toNat_natCast, Int.natCast_nonneg, List.getElem?_map, List.length_map, Nat.zero_add, eq_self, Bool.not_true, Bool.not_false, app_mk]
          refine andK_split (by simp only [List.size_toArray, List.length_cons, List.length_nil, List.length_append]; omega) ?_
          simp -dsimp (maxDischargeDepth := 9) only [go_sem, Nat.reduceBEq, Nat.reduceLT, Nat.reduceAdd, Nat.reduceSub, Nat.reduceMul, Nat.reduceLeDiff, Int.reduceLE, Int.toNat_natCast, Int.natCast_nonneg, List.getElem?_map, List.length_map, Nat.zero_add, eq_self, Bool.not_true, Bool.not_false, app_mk]
          exact retW_drop (leH_upd (hle.free (hacc.le.free (upd_none hb5))) (leH_upd (hle.free ho1) hleG)) (retW_is (by simpa only [It.t, It.t0, hk, if_neg (show ¬ (3 : Int) = 1 by decide), if_neg (show ¬ (3 : Int) = 2 by decide), if_true, show detT 4 = [110, 111, 110, 100, 101, 116] from rfl, List.cons_append, List.nil_append, List.append_assoc] using hK))
      · have hd4 : ¬ idet ≤ 4 := of_decide_eq_false h
        have hdt : detT idet = [] := by unfold detT; rw [if_neg (by omega), if_neg (by omega), if_neg (by omega), if_neg (by omega)]
        simp -dsimp (maxDischargeDepth := 9) only [go_sem, Nat.reduceBEq, Nat.reduceLT, Nat.reduceAdd, Nat.reduceSub, Nat.reduceMul, Nat.reduceLeDiff, Int.reduceLE, Int.toNat_natCast, Int.natCast_nonneg, List.getElem?_map, List.length_map, Nat.zero_add, eq_self, Bool.not_true, Bool.not_false, h, g1', e1o]
        refine andK_split (by simp only [List.size_toArray, List.length_cons, List.length_nil, List.length_append]; omega) ?_
        simp -dsimp (maxDischargeDepth := 9) only [go_sem, Nat.reduceBEq, Nat.reduceLT, Nat.reduceAdd, Nat.reduceSub, Nat.reduceMul, Nat.reduceLeDiff, Int.reduceLE, Int.toNat_natCast, Int.natCast_nonneg, List.getElem?_map, List.length_map, Nat.zero_add, eq_self, Bool.not_true, Bool.not_false, app_mk]
        exact retW_drop (leH_upd (hle.free ho1) hleG) (retW_is (by simpa only [It.t, It.t0, hk, if_neg (show ¬ (3 : Int) = 1 by decide), if_neg (show ¬ (3 : Int) = 2 by decide), if_true, hdt, List.append_nil, List.cons_append, List.nil_append, List.append_assoc] using hK))
    · have hd1 : ¬ 1 ≤ idet := of_decide_eq_false h
      have hdt : detT idet = [] := by unfold detT; rw [if_neg (by omega), if_neg (by omega), if_neg (by omega), if_neg (by omega)]
      simp -dsimp (maxDischargeDepth := 9) only [go_sem, Nat.reduceBEq, Nat.reduceLT, Nat.reduceAdd, Nat.reduceSub, Nat.reduceMul, Nat.reduceLeDiff, Int.reduceLE, Int.toNat_natCast, Int.natCast_nonneg, List.getElem?_map, List.length_map, Nat.zero_add, eq_self, Bool.not_true, Bool.not_false, h, g1', e1o]
      refine andK_split (by simp only [List.size_toArray, List.length_cons, List.length_nil, List.length_append]; omega) ?_
      simp -dsimp (maxDischargeDepth := 9) only [go_sem, Nat.reduceBEq, Nat.reduceLT, Nat.reduceAdd, Nat.reduceSub, Nat.reduceMul, Nat.reduceLeDiff, Int.reduceLE, Int.toNat_natCast, Int.natCast_nonneg, List.getElem?_map, List.length_map, Nat.zero_add, eq_self, Bool.not_true, Bool.not_false, app_mk]
      exact retW_drop (leH_upd (hle.free ho1) hleG) (retW_is (by simpa only [It.t, It.t0, hk, if_neg (show ¬ (3 : Int) = 1 by decide), if_neg (show ¬ (3 : Int) = 2 by decide), if_true, hdt, List.append_nil, List.cons_append, List.nil_append, List.append_assoc] using hK))
  have k3 : ¬ ik = 3 := of_decide_eq_false h
  simp -dsimp (maxDischargeDepth := 9) only [go_sem, Nat.reduceBEq, Nat.reduceLT, Nat.reduceAdd, Nat.reduceSub, Nat.reduceMul, Nat.reduceLeDiff, Int.reduceLE, Int.toNat_natCast, Int.natCast_nonneg, List.getElem?_map, List.length_map, Nat.zero_add, eq_self, Bool.not_true, Bool.not_false, h]
  refine gif_split (fun h => ?_) (fun h => ?_)
  · have hk : ik = 4 := of_decide_eq_true h
    simp -dsimp (maxDischargeDepth := 9) only [go_sem, Nat.reduceBEq, Nat.reduceLT, Nat.reduceAdd, Nat.reduceSub, Nat.reduceMul, Nat.reduceLeDiff, Int.reduceLE, Int.toNat_natCast, Int.natCast_nonneg, List.getElem?_map, List.length_map, Nat.zero_add, eq_self, Bool.not_true, Bool.not_false, h]
    refine rterms_ok _ iargs hal (fun t ht' G K hK => rterm_ok t (hao t ht') (hasub t ht') G K hK) _ ?_
    simp -dsimp (maxDischargeDepth := 9) only [go_sem, Nat.reduceBEq, Nat.reduceLT, Nat.reduceAdd, Nat.reduceSub, Nat.reduceMul, Nat.reduceLeDiff, Int.reduceLE, Int.toNat_natCast, Int.natCast_nonneg, List.getElem?_map, List.length_map, Nat.zero_add, eq_self, Bool.not_true, Bool.not_false]
    refine rrow_ok _ (by omega) _ _ ?_
    simp -dsimp (maxDischargeDepth := 9) only [go_sem, Nat.reduceBEq, Nat.reduceLT, Nat.reduceAdd, Nat.reduceSub, Nat.reduceMul, Nat.reduceLeDiff, Int.reduceLE, Int.toNat_natCast, Int.natCast_nonneg, List.getElem?_map, List.length_map, Nat.zero_add, eq_self, Bool.not_true, Bool.not_false]
    refine andK_split (by simp only [List.size_toArray, List.length_cons, List.length_nil, List.length_append]; omega) ?_
    simp -dsimp (maxDischargeDepth := 9) only [go_sem, Nat.reduceBEq, Nat.reduceLT, Nat.reduceAdd, Nat.reduceSub, Nat.reduceMul, Nat.reduceLeDiff, Int.reduceLE, Int.toNat_natCast, Int.natCast_nonneg, List.getElem?_map, List.length_map, Nat.zero_add, eq_self, Bool.not_true, Bool.not_false, app_mk]
    refine gif_split (fun h => ?_) (fun h => ?_)
    · have hg1 : ¬ gk = 1 := by simpa using h
      simp -dsimp (maxDischargeDepth := 9) only [go_sem, Nat.reduceBEq, Nat.reduceLT, Nat.reduceAdd, Nat.reduceSub, Nat.reduceMul, Nat.reduceLeDiff, Int.reduceLE, Int.toNat_natCast, Int.natCast_nonneg, List.getElem?_map, List.length_map, Nat.zero_add, eq_self, Bool.not_true, Bool.not_false, h]
      rw [← hd]
      refine rgoal_ok g hgo (by omega) _ _ ?_
      simp -dsimp (maxDischargeDepth := 9) only [go_sem, Nat.reduceBEq, Nat.reduceLT, Nat.reduceAdd, Nat.reduceSub, Nat.reduceMul, Nat.reduceLeDiff, Int.reduceLE, Int.toNat_natCast, Int.natCast_nonneg, List.getElem?_map, List.length_map, Nat.zero_add, eq_self, Bool.not_true, Bool.not_false]
      refine andK_split (by simp only [List.size_toArray, List.length_cons, List.length_nil, List.length_append]; omega) ?_
      simp -dsimp (maxDischargeDepth := 9) only [go_sem, Nat.reduceBEq, Nat.reduceLT, Nat.reduceAdd, Nat.reduceSub, Nat.reduceMul, Nat.reduceLeDiff, Int.reduceLE, Int.toNat_natCast, Int.natCast_nonneg, List.getElem?_map, List.length_map, Nat.zero_add, eq_self, Bool.not_true, Bool.not_false, app_mk]
      refine andK_split (by simp only [List.size_toArray, List.length_cons, List.length_nil, List.length_append]; omega) ?_
      simp -dsimp (maxDischargeDepth := 9) only [go_sem, Nat.reduceBEq, Nat.reduceLT, Nat.reduceAdd, Nat.reduceSub, Nat.reduceMul, Nat.reduceLeDiff, Int.reduceLE, Int.toNat_natCast, Int.natCast_nonneg, List.getElem?_map, List.length_map, Nat.zero_add, eq_self, Bool.not_true, Bool.not_false, app_mk]
      refine andK_split (by simp only [List.size_toArray, List.length_cons, List.length_nil, List.length_append]; omega) ?_
      simp -dsimp (maxDischargeDepth := 9) only [go_sem, Nat.reduceBEq, Nat.reduceLT, Nat.reduceAdd, Nat.reduceSub, Nat.reduceMul, Nat.reduceLeDiff, Int.reduceLE, Int.toNat_natCast, Int.natCast_nonneg, List.getElem?_map, List.length_map, Nat.zero_add, eq_self, Bool.not_true, Bool.not_false, app_mk]
      exact retW_drop (G := H) (leH_upd hb1 (.refl H)) (retW_is (by simpa only [It.t, It.t0, hk, hgk, if_neg (show ¬ (4 : Int) = 1 by decide), if_neg (show ¬ (4 : Int) = 2 by decide), if_neg (show ¬ (4 : Int) = 3 by decide), if_true, if_neg hg1, List.cons_append, List.nil_append, List.append_assoc] using hK))
    · have hg1 : gk = 1 := by simpa using h
      simp -dsimp (maxDischargeDepth := 9) only [go_sem, Nat.reduceBEq, Nat.reduceLT, Nat.reduceAdd, Nat.reduceSub, Nat.reduceMul, Nat.reduceLeDiff, Int.reduceLE, Int.toNat_natCast, Int.natCast_nonneg, List.getElem?_map, List.length_map, Nat.zero_add, eq_self, Bool.not_true, Bool.not_false, h]
      refine andK_split (by simp only [List.size_toArray, List.length_cons, List.length_nil, List.length_append]; omega) ?_
      simp -dsimp (maxDischargeDepth := 9) only [go_sem, Nat.reduceBEq, Nat.reduceLT, Nat.reduceAdd, Nat.reduceSub, Nat.reduceMul, Nat.reduceLeDiff, Int.reduceLE, Int.toNat_natCast, Int.natCast_nonneg, List.getElem?_map, List.length_map, Nat.zero_add, eq_self, Bool.not_true, Bool.not_false, app_mk]
      exact retW_drop (G := H) (leH_upd hb1 (.refl H)) (retW_is (by simpa only [It.t, It.t0, hk, hgk, if_neg (show ¬ (4 : Int) = 1 by decide), if_neg (show ¬ (4 : Int) = 2 by decide), if_neg (show ¬ (4 : Int) = 3 by decide), if_true, if_pos hg1, List.cons_append, List.nil_append, List.append_assoc] using hK))
  have k4 : ¬ ik = 4 := of_decide_eq_false h
  simp -dsimp (maxDischargeDepth := 9) only [go_sem, Nat.reduceBEq, Nat.reduceLT, Nat.reduceAdd, Nat.reduceSub, Nat.reduceMul, Nat.reduceLeDiff, Int.reduceLE, Int.toNat_natCast, Int.natCast_nonneg, List.getElem?_map, List.length_map, Nat.zero_add, eq_self, Bool.not_true, Bool.not_false, h]
  refine andK_split (by simp only [List.size_toArray, List.length_cons, List.length_nil, List.length_append]; omega) ?_
  simp -dsimp (maxDischargeDepth := 9) only [go_sem, Nat.reduceBEq, Nat.reduceLT, Nat.reduceAdd, Nat.reduceSub, Nat.reduceMul, Nat.reduceLeDiff, Int.reduceLE, Int.toNat_natCast, Int.natCast_nonneg, List.getElem?_map, List.length_map, Nat.zero_add, eq_self, Bool.not_true, Bool.not_false, app_mk]
  exact retW_drop (G := H) (leH_upd hb1 (.refl H)) (retW_is (by simpa only [It.t, It.t0, if_neg k1, if_neg k2, if_neg k3, if_neg k4, List.nil_append] using hK))
end Go.Aug

/- print.Source of one item: the library's Builder stands beside what the layer knows. -/
namespace Go.Aug
open Go.Proofs Go.RowKit
set_option maxRecDepth 100000
set_option linter.unusedSimpArgs false

section
variable {P : Program} {V : Env} {N : Nat} {Z Z' : Nat → Prop} {H H' : Heap} {w w' : World}

/-- What is known at hand nothing of leaves the blocks below as they were. -/
theorem Ext.below0 (x : Ext Z (fun _ => none) w Z' H' w') : Below w.heap.size w w' :=
  ⟨x.os, x.tape, x.output, x.size, fun k hk => x.block k hk (fun ⟨_, h, _⟩ => by cases h)⟩

theorem below_less {B B' : Nat} {w w' : World} (h : Below B w w') (hB : B' ≤ B) : Below B' w w' :=
  ⟨h.os, h.tape, h.output, h.size, fun k hk => h.block k (Nat.lt_of_lt_of_le hk hB)⟩

theorem BuilderAt.below {T e : TypeId} {B b : Nat} {p : Value} {bs : List Value} (h : Lib.BuilderAt T e B b p bs w) (hb : Below w.heap.size w w') : Lib.BuilderAt T e B b p bs w' := by
  obtain ⟨h1, v, h2, h3, h4⟩ := h
  refine ⟨h1, v, by rw [hb.block b (Array.getElem?_eq_some_iff.1 h2).1]; exact h2, h3.kept (row := none) ⟨hb.os, hb.tape, hb.output, hb.size, fun k hk _ => hb.block k hk⟩ ?_, h4⟩
  cases hv : v.ownBlock with
  | none => exact .inl rfl
  | some x => exact .inr (by simp)
theorem IsBuilder.below {T e : TypeId} {B b : Nat} {bs : List Value} (h : Lib.IsBuilder T e B b bs w) (hb : Below w.heap.size w w') : Lib.IsBuilder T e B b bs w' :=
  h.imp (fun h => BuilderAt.below h hb) (fun h => BuilderAt.below h hb)
end

variable {eb : Nat → Addr} {mm : Nat → Option Obj}

theorem WriteString52 (B b : Nat) (bs : List Value) (s : ByteArray) (w : World) (h : Lib.IsBuilder 110 5 B b bs w) (hlen : bs.length + s.size ≤ 140737488355328) (hBw : B ≤ w.heap.size) :
    Calls Tryz.prog 52 #[.pointer (some ⟨b, 0, none⟩), .string s] w fun e w' => e = .returned (.tuple #[.int .i64 s.size, .nilIface]) ∧ (Lib.BuilderAt 110 5 B b (.pointer (some ⟨b, 0, none⟩)) (bs ++ Lib.strCells s) w' ∧ Below B w w') :=
  Any.Builder_WriteString { Tryz.lays156 with } Tryz.Builder_Extra_156 B b bs s w h hlen hBw

theorem wpOps_step {P : Program} {ops : Array Oper} {Q : Exit → Act → World → Prop} {i : Nat} {rest : List Nat} {o : Oper} {a : Act} {w : World} (ho : ops[i]? = some o) (hg : o.guard = none)
    (h : o.wp P a w (wpOps P ops Q rest) Q) : wpOps P ops Q (i :: rest) a w := by
  have : ∀ y, Region.wanted o y = true := fun y => by unfold Region.wanted; rw [hg]
  simp only [wpOps, ho, this, if_true]
  exact .inl h

theorem wp_callF {P : Program} {o : Oper} {c : Call} {f : FuncId} {a : Act} {w : World} {vs : Array Value} {R : Ending → World → Prop} {next : Act → World → Prop} {Q : Exit → Act → World → Prop} (ho : o.op = .call c) (hc : c.callee = .value (.func f)) (ha : c.args.map a.eval = vs)
    (he : ∀ args w, (callFunc f args).run P w = .ok (.enter f args) w) (h : Calls P f vs w R) (hR : ∀ e w', R e w' → ∃ v, e = .returned v ∧ next (a.put o.dst v) w') : o.wp P a w next Q := by
  unfold Oper.wp
  have ef : a.eval (.func f) = .func (.func f) #[] #[] := rfl
  have hx : (execOp a.eval o).run P w = .ok (.enter f vs) w := by
    unfold execOp
    rw [ho]
    simp [resolve, hc, ef, Deferred.ofValue, invoke, ha, he]
  rw [hx, Oper.upon_enter]
  refine h.mono ?_
  intro e w' hr
  obtain ⟨v, rfl, hn⟩ := hR e w' hr
  exact hn

theorem St.weak {V : Env} {N : Nat} {ds : List Deferred} {Z Z' : Nat → Prop} {F : Nat → A} {H : Heap} {a : Act} {w w' : World} {b : Nat} {x y : Int} (hN : 8 < N) (s : St V N ds Z F H a w) (m : Mem V Z' (fun _ => none) w')
    (h3 : F 3 = .ref b 0) (h7 : F 7 = .d (.int .i64 x)) (h8 : F 8 = .d (.int .i64 y)) : St V N ds Z' (mkF [(3, .ref b 0), (7, .d (.int .i64 x)), (8, .d (.int .i64 y))]) (fun _ => none) a w' := by
  refine ⟨s.defers, s.size, fun i hi => ?_, m⟩
  simp only [mkF]
  split
  · rename_i e; subst e
    have r := s.slots 3 hi; rw [h3] at r
    generalize a.tmps.getD 3 undef = v at r ⊢
    cases r; exact .ref ..
  · split
    · rename_i e; subst e
      have r := s.slots 7 hi; rw [h7] at r
      generalize a.tmps.getD 7 undef = v at r ⊢
      have r := r.deep; cases r; exact .d _ _ (.int ..)
    · split
      · rename_i e; subst e
        have r := s.slots 8 hi; rw [h8] at r
        generalize a.tmps.getD 8 undef = v at r ⊢
        have r := r.deep; cases r; exact .d _ _ (.int ..)
      · exact .undef _

theorem run_alloc110 (w : World) : (Instr.alloc 110 true (.tuple #[])).run Tryz.prog w = .ok (.pointer (some ⟨w.heap.size, 0, none⟩)) (w.alloc (.cells #[.pointer none, .slice none 0 0] 110)) := by
  simp [Instr.alloc, Tryz.zeroValue110, newVar, newRow, Value.cells]

theorem func52 : Tryz.prog.funcs[52]? = some Tryz.f52 := Tryz.func52
theorem func53 : Tryz.prog.funcs[53]? = some Tryz.f53 := Tryz.func53
theorem name52 : (Tryz.f52.name == "runtime.NumGoroutine") = false := by kernel_rfl
theorem name53 : (Tryz.f53.name == "runtime.NumGoroutine") = false := by kernel_rfl
theorem enter52 (cv : Array Value) (w : World) : (callFunc 52 cv).run Tryz.prog w = .ok (.enter 52 cv) w := by
  have h1 : Tryz.f52.name ≠ "runtime.NumGoroutine" := by simpa using name52
  have hb : (Tryz.f52.body.isSome) = true := by kernel_rfl
  obtain ⟨c, hc⟩ := Option.isSome_iff_exists.1 hb
  simp [callFunc, func52, h1, hc]
theorem enter53 (cv : Array Value) (w : World) : (callFunc 53 cv).run Tryz.prog w = .ok (.enter 53 cv) w := by
  have h1 : Tryz.f53.name ≠ "runtime.NumGoroutine" := by simpa using name53
  have hb : (Tryz.f53.body.isSome) = true := by kernel_rfl
  obtain ⟨c, hc⟩ := Option.isSome_iff_exists.1 hb
  simp [callFunc, func53, h1, hc]

theorem body22 : ∃ c, Tryz.f22.body = some c := ⟨_, rfl⟩

/-- A piece of code by its condition. -/
theorem piece {c : Code} {Q : Post} {R : Exit → Act → World → Prop} {N : Nat} {ds : List Deferred} {Z : Nat → Prop} {F : Nat → A} {H : Heap} {a : Act} {w : World} {V : Env}
    (hc : codeOK Tryz.prog (fun _ => .done) c = true) (st : St V N ds Z F H a w) (h : svc Tryz.prog V N (toS (fun _ => .done) (keepAt kp22) c) Q F H)
    (hr : ∀ e a' w' Z' F' H', St V N ds Z' F' H' a' w' → Ext Z H w Z' H' w' → Q e F' H' → R e a' w') : c.wp Tryz.prog R a w :=
  wp_mono (svc_sound mixed c hc h ds Z a w st) fun e a' w' ⟨Z', F', H', s, x, q⟩ => hr e a' w' Z' F' H' s x q

section
attribute [local irreducible] hid andK letA onSome onVar onArr arrOnly onInt onBool onFunc onTup idxA ldV ldD addO ofPart appTo fillL slA srcK nilQ retW gif sgd sguard svc sops sdops sagain aopO aLoad aStore aBin aUn aConv aLen aIndexAddr aIndex aIndexAddrS aIndexS aSlice aAppend aBuild aBuildSlice aMakeSlice aField aFieldOf aCallOp deepK deepL frzM putE newK newV growV ACall roundQ thenQ inBlockQ sret cnd szs nilC onMap onRow aLookup aMapUpdate aMakeMap
abbrev H0 : Heap := fun _ => none

theorem pA (i : It) : svc Tryz.prog (seatZ eb mm) 17 (.reg (some [0]) [{ dst := some 2, gd := none, op := .assign (.const (.string ⟨#[]⟩)) }])
    (fun e F H => e = .normal ∧ F 0 = .d (.slice [i.d]) ∧ H = H0) (mkF [(0, .d (.slice [i.d]))]) H0 := by
  simp -dsimp (maxDischargeDepth := 9) only [go_sem, Nat.reduceBEq, Nat.reduceLT, Nat.reduceAdd, Nat.reduceSub, Nat.reduceMul, Nat.reduceLeDiff, Int.reduceLE, Int.toNat_natCast, Int.natCast_nonneg, List.getElem?_map, List.length_map, Nat.zero_add, eq_self, Bool.not_true, Bool.not_false]

theorem pB (b : Nat) (i : It) : svc Tryz.prog (seatZ eb mm) 17 (.reg (some [0, 3]) [{ dst := some 6, gd := none, op := .move (.tmp 0) }, { dst := some 7, gd := none, op := .call { callee := .builtin .len, args := #[.tmp 6], argTypes := #[62] } }, { dst := some 8, gd := none, op := .move (.const (.int .i64 0)) }])
    (fun e F H => e = .normal ∧ F 3 = .ref b 0 ∧ F 6 = .d (.slice [i.d]) ∧ F 7 = .d (.int .i64 1) ∧ F 8 = .d (.int .i64 0) ∧ H = H0) (mkF [(0, .d (.slice [i.d])), (3, .ref b 0)]) H0 := by
  simp -dsimp (maxDischargeDepth := 9) only [go_sem, Nat.reduceBEq, Nat.reduceLT, Nat.reduceAdd, Nat.reduceSub, Nat.reduceMul, Nat.reduceLeDiff, Int.reduceLE, Int.toNat_natCast, Int.natCast_nonneg, List.getElem?_map, List.length_map, Nat.zero_add, eq_self, Bool.not_true, Bool.not_false]
  all_goals rfl

theorem pC0 (b : Nat) (i : It) : svc Tryz.prog (seatZ eb mm) 17 (.reg (some [3, 6, 7, 8]) [{ dst := some 9, gd := none, op := .binOp .lss 3 (.tmp 8) (.tmp 7) 3 }])
    (fun e F H => e = .normal ∧ F 9 = .d (.bool true) ∧ F 3 = .ref b 0 ∧ F 6 = .d (.slice [i.d]) ∧ F 7 = .d (.int .i64 1) ∧ F 8 = .d (.int .i64 0) ∧ H = H0) (mkF [(3, .ref b 0), (6, .d (.slice [i.d])), (7, .d (.int .i64 1)), (8, .d (.int .i64 0))]) H0 := by
  simp -dsimp (maxDischargeDepth := 9) only [go_sem, Nat.reduceBEq, Nat.reduceLT, Nat.reduceAdd, Nat.reduceSub, Nat.reduceMul, Nat.reduceLeDiff, Int.reduceLE, Int.toNat_natCast, Int.natCast_nonneg, List.getElem?_map, List.length_map, Nat.zero_add, eq_self, Bool.not_true, Bool.not_false]
  all_goals rfl
theorem pC1 (b : Nat) : svc Tryz.prog (seatZ eb mm) 17 (.reg (some [3, 6, 7, 8]) [{ dst := some 9, gd := none, op := .binOp .lss 3 (.tmp 8) (.tmp 7) 3 }])
    (fun e F H => e = .normal ∧ F 9 = .d (.bool false) ∧ F 3 = .ref b 0 ∧ H = H0) (mkF [(3, .ref b 0), (7, .d (.int .i64 1)), (8, .d (.int .i64 1))]) H0 := by
  simp -dsimp (maxDischargeDepth := 9) only [go_sem, Nat.reduceBEq, Nat.reduceLT, Nat.reduceAdd, Nat.reduceSub, Nat.reduceMul, Nat.reduceLeDiff, Int.reduceLE, Int.toNat_natCast, Int.natCast_nonneg, List.getElem?_map, List.length_map, Nat.zero_add, eq_self, Bool.not_true, Bool.not_false]
  all_goals rfl

theorem pD (b : Nat) (i : It) : svc Tryz.prog (seatZ eb mm) 17 (.reg (some [3, 6, 7, 8]) [{ dst := some 10, gd := none, op := .indexAddr 62 (.tmp 6) (.tmp 8) }, { dst := some 11, gd := none, op := .load 33 (.tmp 10) }, { dst := some 5, gd := none, op := .alloc 33 }, { dst := none, gd := none, op := .store 33 (.tmp 5) (.tmp 11) }])
    (fun e F H => e = .normal ∧ F 3 = .ref b 0 ∧ F 7 = .d (.int .i64 1) ∧ F 8 = .d (.int .i64 0) ∧ ∃ b5, F 5 = .ref b5 0 ∧ H = upd H0 b5 (.var (i.cs.map .d))) (mkF [(3, .ref b 0), (6, .d (.slice [i.d])), (7, .d (.int .i64 1)), (8, .d (.int .i64 0))]) H0 := by
  obtain ⟨ik, iname, ivars, ictors, itypes, iins, idet, iargs, g⟩ := i
  obtain ⟨gk, ak, an, ai, aa, bk, bn, bi, ba, n, ga, gs, he⟩ := Gl.open g
  have hid' : It.d ⟨ik, iname, ivars, ictors, itypes, iins, idet, iargs, g⟩ = .agg [.int .i64 ik, S iname, .slice (ivars.map S), .slice (ictors.map Ct.d), .slice (Ty.ds itypes), .slice (iins.map .bool), .int .i64 idet, .slice (Tm.ds iargs), .int .i64 gk, .int .i64 ak, S an, .int .i64 ai, .slice (Tm.ds aa), .int .i64 bk, S bn, .int .i64 bi, .slice (Tm.ds ba), S n, .slice (Tm.ds ga), .slice (Gl.ds gs)] := by rw [he]; rfl
  have hcs : It.cs ⟨ik, iname, ivars, ictors, itypes, iins, idet, iargs, g⟩ = [.int .i64 ik, S iname, .slice (ivars.map S), .slice (ictors.map Ct.d), .slice (Ty.ds itypes), .slice (iins.map .bool), .int .i64 idet, .slice (Tm.ds iargs), .int .i64 gk, .int .i64 ak, S an, .int .i64 ai, .slice (Tm.ds aa), .int .i64 bk, S bn, .int .i64 bi, .slice (Tm.ds ba), S n, .slice (Tm.ds ga), .slice (Gl.ds gs)] := by rw [he]; rfl
  rw [hid', hcs]
  simp -dsimp (maxDischargeDepth := 9) only [go_sem, Nat.reduceBEq, Nat.reduceLT, Nat.reduceAdd, Nat.reduceSub, Nat.reduceMul, Nat.reduceLeDiff, Int.reduceLE, Int.toNat_natCast, Int.natCast_nonneg, List.getElem?_map, List.length_map, Nat.zero_add, eq_self, Bool.not_true, Bool.not_false]
  refine onSome_of _ rfl ?_
  simp -dsimp (maxDischargeDepth := 9) only [go_sem, Nat.reduceBEq, Nat.reduceLT, Nat.reduceAdd, Nat.reduceSub, Nat.reduceMul, Nat.reduceLeDiff, Int.reduceLE, Int.toNat_natCast, Int.natCast_nonneg, List.getElem?_map, List.length_map, Nat.zero_add, eq_self, Bool.not_true, Bool.not_false]
  refine newK_intro (fun b5 hb5 hn5 hm5 => ?_)
  simp -dsimp (maxDischargeDepth := 9) only [go_sem, Nat.reduceBEq, Nat.reduceLT, Nat.reduceAdd, Nat.reduceSub, Nat.reduceMul, Nat.reduceLeDiff, Int.reduceLE, Int.toNat_natCast, Int.natCast_nonneg, List.getElem?_map, List.length_map, Nat.zero_add, eq_self, Bool.not_true, Bool.not_false]
  refine ⟨b5, rfl, ?_⟩
  rw [upd_upd]


theorem pE (b : Nat) : svc Tryz.prog (seatZ eb mm) 17 (.reg (some [3, 6, 7, 8]) [{ dst := some 15, gd := none, op := .binOp .add 3 (.tmp 8) (.const (.int .i64 1)) 3 }, { dst := some 8, gd := none, op := .move (.tmp 15) }])
    (fun e F H => e = .normal ∧ F 3 = .ref b 0 ∧ F 7 = .d (.int .i64 1) ∧ F 8 = .d (.int .i64 1) ∧ H = H0) (mkF [(3, .ref b 0), (7, .d (.int .i64 1)), (8, .d (.int .i64 0))]) H0 := by
  simp -dsimp (maxDischargeDepth := 9) only [go_sem, Nat.reduceBEq, Nat.reduceLT, Nat.reduceAdd, Nat.reduceSub, Nat.reduceMul, Nat.reduceLeDiff, Int.reduceLE, Int.toNat_natCast, Int.natCast_nonneg, List.getElem?_map, List.length_map, Nat.zero_add, eq_self, Bool.not_true, Bool.not_false, show IntKind.i64.wrap (0 + 1) = 1 by decide]
  all_goals rfl

theorem pL (b b5 : Nat) (i : It) : aopO Tryz.prog (seatZ eb mm) 17 (.load 33 (.tmp 5)) (mkF [(5, .ref b5 0)]) (upd H0 b5 (.var (i.cs.map .d))) (fun x H => x = .d i.d) := by
  obtain ⟨ik, iname, ivars, ictors, itypes, iins, idet, iargs, g⟩ := i
  obtain ⟨gk, ak, an, ai, aa, bk, bn, bi, ba, n, ga, gs, he⟩ := Gl.open g
  have hid' : It.d ⟨ik, iname, ivars, ictors, itypes, iins, idet, iargs, g⟩ = .agg [.int .i64 ik, S iname, .slice (ivars.map S), .slice (ictors.map Ct.d), .slice (Ty.ds itypes), .slice (iins.map .bool), .int .i64 idet, .slice (Tm.ds iargs), .int .i64 gk, .int .i64 ak, S an, .int .i64 ai, .slice (Tm.ds aa), .int .i64 bk, S bn, .int .i64 bi, .slice (Tm.ds ba), S n, .slice (Tm.ds ga), .slice (Gl.ds gs)] := by rw [he]; rfl
  have hcs : It.cs ⟨ik, iname, ivars, ictors, itypes, iins, idet, iargs, g⟩ = [.int .i64 ik, S iname, .slice (ivars.map S), .slice (ictors.map Ct.d), .slice (Ty.ds itypes), .slice (iins.map .bool), .int .i64 idet, .slice (Tm.ds iargs), .int .i64 gk, .int .i64 ak, S an, .int .i64 ai, .slice (Tm.ds aa), .int .i64 bk, S bn, .int .i64 bi, .slice (Tm.ds ba), S n, .slice (Tm.ds ga), .slice (Gl.ds gs)] := by rw [he]; rfl
  rw [hid', hcs]
  have : aopO Tryz.prog (seatZ eb mm) 17 (.load 33 (.tmp 5)) (mkF [(5, .ref b5 0)]) (upd H0 b5 (.var ([.int .i64 ik, S iname, .slice (ivars.map S), .slice (ictors.map Ct.d), .slice (Ty.ds itypes), .slice (iins.map .bool), .int .i64 idet, .slice (Tm.ds iargs), .int .i64 gk, .int .i64 ak, S an, .int .i64 ai, .slice (Tm.ds aa), .int .i64 bk, S bn, .int .i64 bi, .slice (Tm.ds ba), S n, .slice (Tm.ds ga), .slice (Gl.ds gs)].map A.d)))
      (hid (fun x H => x = .d (.agg [.int .i64 ik, S iname, .slice (ivars.map S), .slice (ictors.map Ct.d), .slice (Ty.ds itypes), .slice (iins.map .bool), .int .i64 idet, .slice (Tm.ds iargs), .int .i64 gk, .int .i64 ak, S an, .int .i64 ai, .slice (Tm.ds aa), .int .i64 bk, S bn, .int .i64 bi, .slice (Tm.ds ba), S n, .slice (Tm.ds ga), .slice (Gl.ds gs)])) ⟨⟩) := by
    simp -dsimp (maxDischargeDepth := 9) only [go_sem, Nat.reduceBEq, Nat.reduceLT, Nat.reduceAdd, Nat.reduceSub, Nat.reduceMul, Nat.reduceLeDiff, Int.reduceLE, Int.toNat_natCast, Int.natCast_nonneg, List.getElem?_map, List.length_map, Nat.zero_add, eq_self, Bool.not_true, Bool.not_false, List.map_cons, List.map_nil]
  unfold hid at this
  exact this

end

theorem source1_ok (i : It) (hl : i.t.length ≤ 1099511627776) (hit : ∀ (H : Heap) (K : A → Heap → Prop), K (.d (S i.t)) H → ACall Tryz.prog (seatZ eb mm) 7 [.d i.d] H K) :
    ACall Tryz.prog (seatZ eb mm) 22 [.d (.slice [i.d])] (fun _ => none) (fun r _ => r = .d (S i.t)) := by
  intro Z w cv hcl hr m
  have hf : Tryz.prog.funcs[22]? = some Tryz.f22 := Tryz.func22
  refine calls_of_wp hf rfl ?_
  have hnt : Tryz.f22.ntmps = 17 := by kernel_rfl
  have st : St (seatZ eb mm) 17 [] Z (argsF [.d (.slice [i.d])]) (fun _ => none) { tmps := cv.toArray ++ Array.replicate (Tryz.f22.ntmps - cv.toArray.size) undef, defers := [] } w := by
    rw [hnt]
    refine ⟨rfl, by simp at hcl ⊢; omega, ?_, m⟩
    intro j hj
    rw [Array.getD_eq_getD_getElem?, Array.getElem?_append]
    simp only [argsF, List.getD]
    by_cases e : j < cv.length
    · have e' : j < [A.d (.slice [i.d])].length := by omega
      simp only [List.size_toArray, e, if_true, List.getElem?_toArray, List.getElem?_eq_getElem e, List.getElem?_eq_getElem e', Option.getD_some]
      exact hr j e e'
    · rw [List.getElem?_eq_none (show [A.d (.slice [i.d])].length ≤ j by omega)]
      exact .undef _
  generalize ({ tmps := cv.toArray ++ Array.replicate (Tryz.f22.ntmps - cv.toArray.size) undef, defers := [] } : Act) = a0 at st ⊢
  have hcv : RepA (seatZ eb mm) w Z (a0.tmps.getD 0 undef) (.d (.slice [i.d])) := st.slots 0 (by decide)
  have le0 : St (seatZ eb mm) 17 [] Z (mkF [(0, .d (.slice [i.d]))]) H0 a0 w := st.le (LeF_mkF _ (by simp [argsF])) (.refl _)
  refine wp_seq ?_
  refine piece (by rfl) le0 (pA i) ?_
  rintro e a1 w1 Z1 F1 H1 st1 x1 ⟨rfl, hF1, rfl⟩
  -- the Builder
  have hb1 : Below w.heap.size w w1 := Ext.below0 x1
  have hB1 : w.heap.size ≤ w1.heap.size := hb1.size
  refine wp_seq (wp_region (wpOps_step rfl rfl ?_))
  refine upon_ok (s := Instr.alloc 110 true (.tuple #[])) (by simp [execOp]) (run_alloc110 w1) ?_
  obtain ⟨bl, hbl⟩ : ∃ bl, bl = w1.heap.size := ⟨_, rfl⟩
  rw [← hbl]
  show wpOps _ _ _ [] (a1.put (some 3) (.pointer (some ⟨bl, 0, none⟩))) _
  have hb12 : Below w1.heap.size w1 (w1.alloc (.cells #[.pointer none, .slice none 0 0] 110)) := (Below.refl w1.heap.size w1).alloc (Nat.le_refl _) _
  have hb2 : Below w.heap.size w (w1.alloc (.cells #[.pointer none, .slice none 0 0] 110)) := hb1.trans (below_less hb12 hB1)
  have hI2 : Lib.IsBuilder 110 5 w.heap.size bl [] (w1.alloc (.cells #[.pointer none, .slice none 0 0] 110)) := by
    refine .inl ⟨by omega, .slice none 0 0, ?_, ⟨rfl, .inl ⟨rfl, rfl⟩⟩, by simp [Value.ownBlock]⟩
    rw [hbl]
    exact heap_alloc_new w1 _
  obtain ⟨m2, x12⟩ := st1.mem.below hb12
  have st2 : St (seatZ eb mm) 17 [] Z1 (mkF [(0, .d (.slice [i.d])), (3, .ref bl 0)]) H0 (a1.put (some 3) (.pointer (some ⟨bl, 0, none⟩))) (w1.alloc (.cells #[.pointer none, .slice none 0 0] 110)) :=
    (st1.put (o := some 3) (x := .ref bl 0) (st1.mem.keeps x12) m2 (.ref ..)).le (LeF_mkF _ (by simp [putF, updF, hF1])) (.refl _)
  generalize w1.alloc (.cells #[.pointer none, .slice none 0 0] 110) = w2 at hb12 hb2 hI2 m2 x12 st2 ⊢
  generalize a1.put (some 3) (.pointer (some ⟨bl, 0, none⟩)) = a2 at st2 ⊢
  show Code.wp _ _ _ _ _
  refine wp_seq (wp_seq ?_)
  refine piece (by rfl) st2 (pB bl i) ?_
  rintro e a3 w3 Z3 F3 H3 st3 x3 ⟨rfl, f33, f36, f37, f38, rfl⟩
  have hb23 : Below w2.heap.size w2 w3 := Ext.below0 x3
  have hb3 : Below w.heap.size w w3 := hb2.trans (below_less hb23 hb2.size)
  have hI3 := IsBuilder.below hI2 hb23
  show Code.wp _ _ _ _ _
  refine wp_block (wp_loop_ghost (fun n a' w' => Below w.heap.size w w' ∧ ((n = 1 ∧ Lib.IsBuilder 110 5 w.heap.size bl [] w' ∧ ∃ Z', St (seatZ eb mm) 17 [] Z' (mkF [(3, .ref bl 0), (6, .d (.slice [i.d])), (7, .d (.int .i64 1)), (8, .d (.int .i64 0))]) H0 a' w') ∨
      (n = 0 ∧ Lib.IsBuilder 110 5 w.heap.size bl (Lib.byteCells i.t) w' ∧ ∃ Z', St (seatZ eb mm) 17 [] Z' (mkF [(3, .ref bl 0), (7, .d (.int .i64 1)), (8, .d (.int .i64 1))]) H0 a' w'))) 1
    ⟨hb3, .inl ⟨rfl, hI3, Z3, st3.le (LeF_mkF _ (by simp [f33, f36, f37, f38])) (.refl _)⟩⟩ ?_)
  rintro n a4 w4 ⟨hb4, ⟨rfl, hI4, Z4, st4⟩ | ⟨rfl, hI4, Z4, st4⟩⟩
  · refine wp_seq ?_
    refine piece (by rfl) st4 (pC0 bl i) ?_
    rintro e a5 w5 Z5 F5 H5 st5 x5 ⟨rfl, f59, f53, f56, f57, f58, rfl⟩
    have hb45 : Below w4.heap.size w4 w5 := Ext.below0 x5
    have hb5 : Below w.heap.size w w5 := hb4.trans (below_less hb45 hb4.size)
    have hI5 := IsBuilder.below hI4 hb45
    show Code.wp _ _ _ _ _
    have hv9 : a5.eval (.tmp 9) = .bool true := by
      have r := ev_rep st5 (.tmp 9)
      simp only [ev, f59, show (9 : Nat) < 17 by decide, if_true] at r
      generalize a5.eval (.tmp 9) = v at r ⊢
      have r := r.deep; cases r; rfl
    refine wp_seq (wp_cond hv9 ?_)
    refine wp_skip ?_
    show Code.wp _ _ _ _ _
    refine wp_seq (wp_block (wp_seq ?_))
    refine piece (by rfl) (st5.le (G := mkF [(3, .ref bl 0), (6, .d (.slice [i.d])), (7, .d (.int .i64 1)), (8, .d (.int .i64 0))]) (LeF_mkF _ (by simp [f53, f56, f57, f58])) (.refl _)) (pD bl i) ?_
    rintro e a6 w6 Z6 F6 H6 st6 x6 ⟨rfl, f63, f67, f68, b5, f65, rfl⟩
    have hb56 : Below w5.heap.size w5 w6 := Ext.below0 x6
    have hb6 : Below w.heap.size w w6 := hb5.trans (below_less hb56 hb5.size)
    have hI6 := IsBuilder.below hI5 hb56
    show Code.wp _ _ _ _ _
    refine wp_region ?_
    show wpOps _ _ _ [0, 1, 2] _ _
    refine wpOps_step rfl rfl ?_
    refine aop_sound (K := fun x _ => x = .d i.d) (st6.le (G := mkF [(5, .ref b5 0)]) (LeF_mkF _ (by simp [f65])) (.refl _)) (pL bl b5 i) ?_
    rintro _ v7 Z7 H7 w7 r7 m7 x7 rfl
    have x57 := x6.trans st5.mem.zlt x7
    have st7 := st6.put (o := some 12) (x7.keeps st6.mem.own) m7 r7
    show wpOps _ _ _ [1, 2] (a6.put (some 12) v7) w7
    generalize a6.put (some 12) v7 = a7 at st7 ⊢
    have f712 : putF F6 (some 12) (.d i.d) 12 = .d i.d := by simp [putF, updF]
    have f73 : putF F6 (some 12) (.d i.d) 3 = .ref bl 0 := by simp [putF, updF, f63]
    have f77 : putF F6 (some 12) (.d i.d) 7 = .d (.int .i64 1) := by simp [putF, updF, f67]
    have f78 : putF F6 (some 12) (.d i.d) 8 = .d (.int .i64 0) := by simp [putF, updF, f68]
    generalize putF F6 (some 12) (.d i.d) = F7 at st7 f712 f73 f77 f78
    refine wpOps_step rfl rfl ?_
    refine aop_sound (K := fun x _ => x = .d (S i.t)) (st7.le (LeF.refl _) (show LeH H0 H7 from fun _ _ h => by cases h)) ?_ ?_
    · show callable Tryz.prog 7 = true ∧ ACall Tryz.prog (seatZ eb mm) 7 ([ev (seatZ eb mm) 17 F7 (.tmp 12)] ++ []) H0 _
      have : ev (seatZ eb mm) 17 F7 (.tmp 12) = .d i.d := by simp [ev, f712]
      rw [this]
      exact ⟨by kernel_rfl, hit _ _ rfl⟩
    rintro _ v8 Z8 H8 w8 r8 m8 x8 rfl
    have x8' : Ext Z7 H7 w7 Z8 H8 w8 := x8.le (show LeH H0 H7 from fun _ _ h => by cases h)
    have x58 := x57.trans st5.mem.zlt x8'
    have st8 := st7.put (o := some 13) (x8'.keeps st7.mem.own) m8 r8
    have hb58 : Below w5.heap.size w5 w8 := Ext.below0 x58
    have hb8 : Below w.heap.size w w8 := hb5.trans (below_less hb58 hb5.size)
    have hI8 := IsBuilder.below hI5 hb58
    show wpOps _ _ _ [2] (a7.put (some 13) v8) w8
    generalize a7.put (some 13) v8 = a8 at st8 ⊢
    have f813 : putF F7 (some 13) (.d (S i.t)) 13 = .d (S i.t) := by simp [putF, updF]
    have f83 : putF F7 (some 13) (.d (S i.t)) 3 = .ref bl 0 := by simp [putF, updF, f73]
    have f87 : putF F7 (some 13) (.d (S i.t)) 7 = .d (.int .i64 1) := by simp [putF, updF, f77]
    have f88 : putF F7 (some 13) (.d (S i.t)) 8 = .d (.int .i64 0) := by simp [putF, updF, f78]
    generalize putF F7 (some 13) (.d (S i.t)) = F8 at st8 f813 f83 f87 f88
    have e3 : a8.eval (.tmp 3) = .pointer (some ⟨bl, 0, none⟩) := by
      have r := ev_rep st8 (.tmp 3)
      simp only [ev, f83, show (3 : Nat) < 17 by decide, if_true] at r
      generalize a8.eval (.tmp 3) = v at r ⊢
      cases r; rfl
    have e13 : a8.eval (.tmp 13) = .string ⟨i.t.toArray⟩ := by
      have r := ev_rep st8 (.tmp 13)
      simp only [ev, f813, show (13 : Nat) < 17 by decide, if_true] at r
      generalize a8.eval (.tmp 13) = v at r ⊢
      have r := r.deep; cases r; rfl
    refine wpOps_step rfl rfl ?_
    have hlen : ([] : List Value).length + ByteArray.size ⟨i.t.toArray⟩ ≤ 140737488355328 := by
      have : ByteArray.size ⟨i.t.toArray⟩ = i.t.length := size_mk' i.t
      simp only [List.length_nil]; omega
    refine wp_callF rfl rfl (by simp [e3, e13]) enter52 (WriteString52 w.heap.size bl [] ⟨i.t.toArray⟩ w8 hI8 hlen hb8.size) ?_
    rintro e w9 ⟨rfl, hA9, hb89⟩
    have hb9 : Below w.heap.size w w9 := hb8.trans hb89
    refine ⟨_, rfl, ?_⟩
    have hI9 : Lib.IsBuilder 110 5 w.heap.size bl (Lib.byteCells i.t) w9 := .inr (by
      have e : ([] : List Value) ++ Lib.strCells ⟨i.t.toArray⟩ = Lib.byteCells i.t := by simp [Lib.strCells_eq]
      rw [e] at hA9
      exact hA9)
    show wpOps _ _ _ [] (a8.put (some 14) _) w9
    have st9 : St (seatZ eb mm) 17 [] Z (mkF [(3, .ref bl 0), (7, .d (.int .i64 1)), (8, .d (.int .i64 0))]) H0 (a8.put (some 14) (.tuple #[.int .i64 (ByteArray.size ⟨i.t.toArray⟩), .nilIface])) w9 := by
      have st9' : St (seatZ eb mm) 17 [] Z8 (putF F8 (some 14) .undef) H8 (a8.put (some 14) (.tuple #[.int .i64 (ByteArray.size ⟨i.t.toArray⟩), .nilIface])) w8 := st8.put (o := some 14) (st8.mem.keeps (Ext.refl ..)) st8.mem (.undef _)
      exact st9'.weak (by decide) (m.below hb9).1 (by simp [putF, updF, f83]) (by simp [putF, updF, f87]) (by simp [putF, updF, f88])
    generalize a8.put (some 14) (.tuple #[.int .i64 (ByteArray.size ⟨i.t.toArray⟩), .nilIface]) = a9 at st9 ⊢
    show Code.wp _ _ _ _ _
    refine piece (by rfl) st9 (pE bl) ?_
    rintro e a10 w10 Z10 F10 H10 st10 x10 ⟨rfl, g3, g7, g8, rfl⟩
    have hb910 : Below w9.heap.size w9 w10 := Ext.below0 x10
    exact ⟨0, Nat.zero_lt_one, hb9.trans (below_less hb910 hb9.size), .inr ⟨rfl, IsBuilder.below hI9 hb910, Z10, st10.le (LeF_mkF _ (by simp [g3, g7, g8])) (.refl _)⟩⟩
  · refine wp_seq ?_
    refine piece (by rfl) st4 (pC1 bl) ?_
    rintro e a5 w5 Z5 F5 H5 st5 x5 ⟨rfl, f59, f53, rfl⟩
    have hb45 : Below w4.heap.size w4 w5 := Ext.below0 x5
    have hb5 : Below w.heap.size w w5 := hb4.trans (below_less hb45 hb4.size)
    have hI5 := IsBuilder.below hI4 hb45
    show Code.wp _ _ _ _ _
    have hv9 : a5.eval (.tmp 9) = .bool false := by
      have r := ev_rep st5 (.tmp 9)
      simp only [ev, f59, show (9 : Nat) < 17 by decide, if_true] at r
      generalize a5.eval (.tmp 9) = v at r ⊢
      have r := r.deep; cases r; rfl
    refine wp_seq (wp_cond hv9 ?_)
    refine wp_exit ?_
    show Code.wp _ _ _ _ _
    have e3 : a5.eval (.tmp 3) = .pointer (some ⟨bl, 0, none⟩) := by
      have r := ev_rep st5 (.tmp 3)
      simp only [ev, f53, show (3 : Nat) < 17 by decide, if_true] at r
      generalize a5.eval (.tmp 3) = v at r ⊢
      cases r; rfl
    refine wp_seq (wp_region (wpOps_step rfl rfl ?_))
    refine wp_callF rfl rfl (by simp [e3]) enter53 (Tryz.Builder_String_any w.heap.size bl i.t w5 hI5 hb5.size) ?_
    rintro e w6 ⟨rfl, hb56⟩
    have hb6 : Below w.heap.size w w6 := hb5.trans hb56
    refine ⟨_, rfl, ?_⟩
    show wpOps _ _ _ [1] (a5.put (some 16) _) w6
    have st6 : St (seatZ eb mm) 17 [] Z (mkF [(16, .d (S i.t))]) H0 (a5.put (some 16) (.string ⟨i.t.toArray⟩)) w6 := by
      have s0 : St (seatZ eb mm) 17 [] Z (mkF []) H0 a5 w6 := ⟨st5.defers, st5.size, fun _ _ => .undef _, (m.below hb6).1⟩
      exact (s0.put (o := some 16) (x := .d (S i.t)) (s0.mem.keeps (Ext.refl ..)) s0.mem (.d _ _ (.str _))).le (LeF_mkF _ (by simp [putF, updF])) (.refl _)
    generalize a5.put (some 16) (.string ⟨i.t.toArray⟩) = a6 at st6 ⊢
    refine wpOps_step rfl rfl ?_
    refine aop_sound (K := fun x H => x = .d (S i.t) ∧ H = H0) st6 (show aopO _ _ _ (.assign (.tmp 16)) _ _ _ from ⟨by simp [ev, mkF], rfl⟩) ?_
    rintro _ v7 Z7 H7 w7 r7 m7 x7 ⟨rfl, rfl⟩
    have hb67 : Below w6.heap.size w6 w7 := Ext.below0 x7
    have hb7 : Below w.heap.size w w7 := hb6.trans (below_less hb67 hb6.size)
    have st7 := st6.put (o := some 2) (st6.mem.keeps x7) m7 r7
    show wpOps _ _ _ [] (a6.put (some 2) v7) w7
    generalize a6.put (some 2) v7 = a7 at st7 ⊢
    show Code.wp _ _ _ _ _
    refine wp_ret ?_
    have hres : Tryz.f22.results.toList = [.tmp 2] := by kernel_rfl
    obtain ⟨v, hv, rv⟩ := results_sound (fn := Tryz.f22) st7 (rs := [.d (S i.t)]) (by rw [hres]; simp [resAll, resOf, putF, updF, ev])
    refine ⟨st7.defers, v, hv, ?_⟩
    obtain ⟨mf, xf⟩ := m.below hb7
    have rv := rv.deep
    cases rv
    exact ⟨_, _, Z, _, rfl, .d _ _ (.str _), mf, xf, rfl⟩

end Go.Aug

/- Closed runs over the great seat's functions: the table of functions in short; the parser's way in. -/
namespace Go.Aug
open Go.Proofs
set_option maxRecDepth 100000

def pickE {α : Type} (b : Bool) (x y : Option α) : Option α := match b with
  | true => x
  | false => y
theorem pickE_some {α : Type} {b : Bool} {x y : Option α} {e : α} (h : pickE b x y = some e) : (b = true ∧ x = some e) ∨ y = some e := by
  cases b
  · exact .inr h
  · exact .inl ⟨rfl, h⟩
noncomputable def tabZ (f : FuncId) : Option (Nat × List ResultVar × SCode) :=
  pickE (Nat.beq f 3) (some (43, [.tmp 2], s3)) <|
  pickE (Nat.beq f 6) (some (19, [.tmp 0], s6)) <|
  pickE (Nat.beq f 7) (some (63, [.tmp 2], s7)) <|
  pickE (Nat.beq f 8) (some (115, [.tmp 2], s8)) <|
  pickE (Nat.beq f 9) (some (59, [.tmp 2], s9)) <|
  pickE (Nat.beq f 10) (some (90, [.tmp 2], s10)) <|
  pickE (Nat.beq f 11) (some (19, [.tmp 2], s11)) <|
  pickE (Nat.beq f 12) (some (18, [.tmp 2], s12)) <|
  pickE (Nat.beq f 13) (some (9, [.tmp 2], s13)) <|
  pickE (Nat.beq f 14) (some (10, [.tmp 2], s14)) <|
  pickE (Nat.beq f 21) (some (8, [.tmp 2, .tmp 3], s21)) <|
  pickE (Nat.beq f 23) (some (32, [.tmp 4], s23)) <|
  pickE (Nat.beq f 24) (some (4, [.tmp 2], s24)) <|
  pickE (Nat.beq f 25) (some (28, [.tmp 2], s25)) <|
  pickE (Nat.beq f 26) (some (32, [.tmp 4], s26)) <|
  pickE (Nat.beq f 27) (some (32, [.tmp 4], s27)) <|
  pickE (Nat.beq f 28) (some (4, [.tmp 2], s28)) <|
  pickE (Nat.beq f 29) (some (14, [.tmp 2], s29)) <|
  pickE (Nat.beq f 30) (some (32, [.tmp 4], s30)) <|
  pickE (Nat.beq f 31) (some (10, [.tmp 2], s31)) <|
  pickE (Nat.beq f 32) (some (20, [.tmp 2], s32)) <|
  pickE (Nat.beq f 33) (some (25, [.tmp 4], s33)) <|
  pickE (Nat.beq f 34) (some (20, [.tmp 2], s34)) <|
  pickE (Nat.beq f 35) (some (31, [.tmp 4], s35)) <|
  pickE (Nat.beq f 36) (some (18, [.tmp 4], s36)) <|
  pickE (Nat.beq f 37) (some (31, [.tmp 4], s37)) <|
  pickE (Nat.beq f 39) (some (29, [.tmp 2], s39)) <|
  pickE (Nat.beq f 48) (some (28, [.tmp 2], s48)) <|
  pickE (Nat.beq f 50) (some (73, [.cell 2 33], s50)) <|
  pickE (Nat.beq f 51) (some (11, [], s51)) <|
  pickE (Nat.beq f 54) (some (26, [.tmp 4], s54)) <|
  pickE (Nat.beq f 68) (some (17, [.tmp 2, .tmp 3], s68)) <|
  pickE (Nat.beq f 70) (some (15, [.tmp 4], s70)) <|
  pickE (Nat.beq f 71) (some (26, [.tmp 2], s71)) <|
  pickE (Nat.beq f 72) (some (37, [.tmp 4], s72)) <|
  pickE (Nat.beq f 73) (some (21, [.tmp 2], s73)) <|
  pickE (Nat.beq f 74) (some (11, [.cell 2 75], s74)) <|
  pickE (Nat.beq f 75) (some (37, [.tmp 4], s75)) <|
  pickE (Nat.beq f 76) (some (4, [.cell 1 35], s76)) <|
  pickE (Nat.beq f 81) (some (37, [.tmp 4], s81)) <|
  pickE (Nat.beq f 82) (some (4, [.cell 1 28], s82)) <|
  pickE (Nat.beq f 83) (some (45, [.cell 4 28], s83)) <|
  pickE (Nat.beq f 84) (some (8, [.cell 4 31], s84)) <|
  pickE (Nat.beq f 112) (some (36, [.tmp 4], s112)) <|
  pickE (Nat.beq f 113) (some (10, [.tmp 5], s113)) <|
  pickE (Nat.beq f 114) (some (22, [.tmp 4], s114)) <|
  pickE (Nat.beq f 115) (some (24, [.cell 2 175], s115)) <|
  pickE (Nat.beq f 116) (some (23, [.tmp 2], s116)) <|
  pickE (Nat.beq f 117) (some (4, [.cell 1 35], s117)) <|
  pickE (Nat.beq f 118) (some (21, [], s118)) <|
  pickE (Nat.beq f 119) (some (14, [.cell 2 175], s119)) <|
  pickE (Nat.beq f 121) (some (7, [.cell 2 28], s121)) <|
  pickE (Nat.beq f 122) (some (30, [.cell 8 31], s122)) <|
  pickE (Nat.beq f 123) (some (6, [.cell 2 31], s123)) <|
  pickE (Nat.beq f 124) (some (6, [.cell 2 31], s124)) <|
  pickE (Nat.beq f 125) (some (91, [.cell 4 31], s125)) <|
  pickE (Nat.beq f 156) (some (35, [.tmp 4], s156)) <|
  pickE (Nat.beq f 157) (some (60, [.cell 4 175, .tmp 5], s157)) <|
  pickE (Nat.beq f 193) (some (9, [.tmp 2], s193)) <|
  pickE (Nat.beq f 194) (some (13, [.tmp 2], s194)) <|
  pickE (Nat.beq f 195) (some (25, [.tmp 6], s195)) <|
  pickE (Nat.beq f 196) (some (13, [.tmp 2], s196)) <|
  pickE (Nat.beq f 197) (some (9, [.tmp 2], s197)) <|
  pickE (Nat.beq f 199) (some (8, [.tmp 4], s199)) <|
  pickE (Nat.beq f 219) (some (18, [.tmp 4], s219)) <|
  none

theorem tabZ_ok (f : FuncId) (e : Nat × List ResultVar × SCode) (h : tabZ f = some e) : FnIs Tryz.prog f e.1 e.2.1 e.2.2 := by
  unfold tabZ at h
  rcases pickE_some h with ⟨hb, he⟩ | h; · (cases he; rw [Nat.eq_of_beq_eq_true hb]; exact fn3)
  rcases pickE_some h with ⟨hb, he⟩ | h; · (cases he; rw [Nat.eq_of_beq_eq_true hb]; exact fn6)
  rcases pickE_some h with ⟨hb, he⟩ | h; · (cases he; rw [Nat.eq_of_beq_eq_true hb]; exact fn7)
  rcases pickE_some h with ⟨hb, he⟩ | h; · (cases he; rw [Nat.eq_of_beq_eq_true hb]; exact fn8)
  rcases pickE_some h with ⟨hb, he⟩ | h; · (cases he; rw [Nat.eq_of_beq_eq_true hb]; exact fn9)
  rcases pickE_some h with ⟨hb, he⟩ | h; · (cases he; rw [Nat.eq_of_beq_eq_true hb]; exact fn10)
  rcases pickE_some h with ⟨hb, he⟩ | h; · (cases he; rw [Nat.eq_of_beq_eq_true hb]; exact fn11)
  rcases pickE_some h with ⟨hb, he⟩ | h; · (cases he; rw [Nat.eq_of_beq_eq_true hb]; exact fn12)
  rcases pickE_some h with ⟨hb, he⟩ | h; · (cases he; rw [Nat.eq_of_beq_eq_true hb]; exact fn13)
  rcases pickE_some h with ⟨hb, he⟩ | h; · (cases he; rw [Nat.eq_of_beq_eq_true hb]; exact fn14)
  rcases pickE_some h with ⟨hb, he⟩ | h; · (cases he; rw [Nat.eq_of_beq_eq_true hb]; exact fn21)
  rcases pickE_some h with ⟨hb, he⟩ | h; · (cases he; rw [Nat.eq_of_beq_eq_true hb]; exact fn23)
  rcases pickE_some h with ⟨hb, he⟩ | h; · (cases he; rw [Nat.eq_of_beq_eq_true hb]; exact fn24)
  rcases pickE_some h with ⟨hb, he⟩ | h; · (cases he; rw [Nat.eq_of_beq_eq_true hb]; exact fn25)
  rcases pickE_some h with ⟨hb, he⟩ | h; · (cases he; rw [Nat.eq_of_beq_eq_true hb]; exact fn26)
  rcases pickE_some h with ⟨hb, he⟩ | h; · (cases he; rw [Nat.eq_of_beq_eq_true hb]; exact fn27)
  rcases pickE_some h with ⟨hb, he⟩ | h; · (cases he; rw [Nat.eq_of_beq_eq_true hb]; exact fn28)
  rcases pickE_some h with ⟨hb, he⟩ | h; · (cases he; rw [Nat.eq_of_beq_eq_true hb]; exact fn29)
  rcases pickE_some h with ⟨hb, he⟩ | h; · (cases he; rw [Nat.eq_of_beq_eq_true hb]; exact fn30)
  rcases pickE_some h with ⟨hb, he⟩ | h; · (cases he; rw [Nat.eq_of_beq_eq_true hb]; exact fn31)
  rcases pickE_some h with ⟨hb, he⟩ | h; · (cases he; rw [Nat.eq_of_beq_eq_true hb]; exact fn32)
  rcases pickE_some h with ⟨hb, he⟩ | h; · (cases he; rw [Nat.eq_of_beq_eq_true hb]; exact fn33)
  rcases pickE_some h with ⟨hb, he⟩ | h; · (cases he; rw [Nat.eq_of_beq_eq_true hb]; exact fn34)
  rcases pickE_some h with ⟨hb, he⟩ | h; · (cases he; rw [Nat.eq_of_beq_eq_true hb]; exact fn35)
  rcases pickE_some h with ⟨hb, he⟩ | h; · (cases he; rw [Nat.eq_of_beq_eq_true hb]; exact fn36)
  rcases pickE_some h with ⟨hb, he⟩ | h; · (cases he; rw [Nat.eq_of_beq_eq_true hb]; exact fn37)
  rcases pickE_some h with ⟨hb, he⟩ | h; · (cases he; rw [Nat.eq_of_beq_eq_true hb]; exact fn39)
  rcases pickE_some h with ⟨hb, he⟩ | h; · (cases he; rw [Nat.eq_of_beq_eq_true hb]; exact fn48)
  rcases pickE_some h with ⟨hb, he⟩ | h; · (cases he; rw [Nat.eq_of_beq_eq_true hb]; exact fn50)
  rcases pickE_some h with ⟨hb, he⟩ | h; · (cases he; rw [Nat.eq_of_beq_eq_true hb]; exact fn51)
  rcases pickE_some h with ⟨hb, he⟩ | h; · (cases he; rw [Nat.eq_of_beq_eq_true hb]; exact fn54)
  rcases pickE_some h with ⟨hb, he⟩ | h; · (cases he; rw [Nat.eq_of_beq_eq_true hb]; exact fn68)
  rcases pickE_some h with ⟨hb, he⟩ | h; · (cases he; rw [Nat.eq_of_beq_eq_true hb]; exact fn70)
  rcases pickE_some h with ⟨hb, he⟩ | h; · (cases he; rw [Nat.eq_of_beq_eq_true hb]; exact fn71)
  rcases pickE_some h with ⟨hb, he⟩ | h; · (cases he; rw [Nat.eq_of_beq_eq_true hb]; exact fn72)
  rcases pickE_some h with ⟨hb, he⟩ | h; · (cases he; rw [Nat.eq_of_beq_eq_true hb]; exact fn73)
  rcases pickE_some h with ⟨hb, he⟩ | h; · (cases he; rw [Nat.eq_of_beq_eq_true hb]; exact fn74)
  rcases pickE_some h with ⟨hb, he⟩ | h; · (cases he; rw [Nat.eq_of_beq_eq_true hb]; exact fn75)
  rcases pickE_some h with ⟨hb, he⟩ | h; · (cases he; rw [Nat.eq_of_beq_eq_true hb]; exact fn76)
  rcases pickE_some h with ⟨hb, he⟩ | h; · (cases he; rw [Nat.eq_of_beq_eq_true hb]; exact fn81)
  rcases pickE_some h with ⟨hb, he⟩ | h; · (cases he; rw [Nat.eq_of_beq_eq_true hb]; exact fn82)
  rcases pickE_some h with ⟨hb, he⟩ | h; · (cases he; rw [Nat.eq_of_beq_eq_true hb]; exact fn83)
  rcases pickE_some h with ⟨hb, he⟩ | h; · (cases he; rw [Nat.eq_of_beq_eq_true hb]; exact fn84)
  rcases pickE_some h with ⟨hb, he⟩ | h; · (cases he; rw [Nat.eq_of_beq_eq_true hb]; exact fn112)
  rcases pickE_some h with ⟨hb, he⟩ | h; · (cases he; rw [Nat.eq_of_beq_eq_true hb]; exact fn113)
  rcases pickE_some h with ⟨hb, he⟩ | h; · (cases he; rw [Nat.eq_of_beq_eq_true hb]; exact fn114)
  rcases pickE_some h with ⟨hb, he⟩ | h; · (cases he; rw [Nat.eq_of_beq_eq_true hb]; exact fn115)
  rcases pickE_some h with ⟨hb, he⟩ | h; · (cases he; rw [Nat.eq_of_beq_eq_true hb]; exact fn116)
  rcases pickE_some h with ⟨hb, he⟩ | h; · (cases he; rw [Nat.eq_of_beq_eq_true hb]; exact fn117)
  rcases pickE_some h with ⟨hb, he⟩ | h; · (cases he; rw [Nat.eq_of_beq_eq_true hb]; exact fn118)
  rcases pickE_some h with ⟨hb, he⟩ | h; · (cases he; rw [Nat.eq_of_beq_eq_true hb]; exact fn119)
  rcases pickE_some h with ⟨hb, he⟩ | h; · (cases he; rw [Nat.eq_of_beq_eq_true hb]; exact fn121)
  rcases pickE_some h with ⟨hb, he⟩ | h; · (cases he; rw [Nat.eq_of_beq_eq_true hb]; exact fn122)
  rcases pickE_some h with ⟨hb, he⟩ | h; · (cases he; rw [Nat.eq_of_beq_eq_true hb]; exact fn123)
  rcases pickE_some h with ⟨hb, he⟩ | h; · (cases he; rw [Nat.eq_of_beq_eq_true hb]; exact fn124)
  rcases pickE_some h with ⟨hb, he⟩ | h; · (cases he; rw [Nat.eq_of_beq_eq_true hb]; exact fn125)
  rcases pickE_some h with ⟨hb, he⟩ | h; · (cases he; rw [Nat.eq_of_beq_eq_true hb]; exact fn156)
  rcases pickE_some h with ⟨hb, he⟩ | h; · (cases he; rw [Nat.eq_of_beq_eq_true hb]; exact fn157)
  rcases pickE_some h with ⟨hb, he⟩ | h; · (cases he; rw [Nat.eq_of_beq_eq_true hb]; exact fn193)
  rcases pickE_some h with ⟨hb, he⟩ | h; · (cases he; rw [Nat.eq_of_beq_eq_true hb]; exact fn194)
  rcases pickE_some h with ⟨hb, he⟩ | h; · (cases he; rw [Nat.eq_of_beq_eq_true hb]; exact fn195)
  rcases pickE_some h with ⟨hb, he⟩ | h; · (cases he; rw [Nat.eq_of_beq_eq_true hb]; exact fn196)
  rcases pickE_some h with ⟨hb, he⟩ | h; · (cases he; rw [Nat.eq_of_beq_eq_true hb]; exact fn197)
  rcases pickE_some h with ⟨hb, he⟩ | h; · (cases he; rw [Nat.eq_of_beq_eq_true hb]; exact fn199)
  rcases pickE_some h with ⟨hb, he⟩ | h; · (cases he; rw [Nat.eq_of_beq_eq_true hb]; exact fn219)
  cases h

def sfst : SCode → SCode
  | .seq x _ => x
  | x => x
def ssnd : SCode → SCode
  | .seq _ y => y
  | x => x
noncomputable def d47 : DEnt := { N := 35, rs := [.cell 4 62, .cell 5 55], X1 := sfst s47, X2 := sfst (ssnd s47), X3 := sfst (ssnd (ssnd s47)), X4 := ssnd (ssnd (ssnd (ssnd s47))), kk := some [1, 4, 5, 6], s := 17, g := 69, caps := #[.tmp 4, .tmp 5] }
theorem d47_code : s47 = d47.code := by kernel_rfl
theorem d47_ok : d47.ok Tryz.prog 47 where
  fn := by have := fn47; rw [d47_code] at this; exact this
  lt := by decide
  enter := fun cv w1 => by
    have hn : (Tryz.f69.name == "runtime.NumGoroutine") = false := by kernel_rfl
    have h1 : Tryz.f69.name ≠ "runtime.NumGoroutine" := by simpa using hn
    have hb : (Tryz.f69.body.isSome) = true := by kernel_rfl
    obtain ⟨c, hc⟩ := Option.isSome_iff_exists.1 hb
    show (callFunc 69 (#[] ++ cv)).run Tryz.prog w1 = .ok (.enter 69 cv) w1
    simp [callFunc, func69, h1, hc]
  idle := idle69
noncomputable def dtabZ (f : FuncId) : Option DEnt := match Nat.beq f 47 with | true => some d47 | false => none
theorem dtabZ_ok (f : FuncId) (e : DEnt) (h : dtabZ f = some e) : e.ok Tryz.prog f := by
  unfold dtabZ at h
  split at h
  · rename_i hb; cases h; rw [Nat.eq_of_beq_eq_true hb]; exact d47_ok
  · cases h

/- The library's two functions. -/
def decF : Nat → Nat → List UInt8 → List UInt8
  | 0, _, acc => acc
  | f + 1, u, acc => match Nat.blt u 10 with
    | true => UInt8.ofNat (48 + u) :: acc
    | false => decF f (u / 10) (UInt8.ofNat (48 + u % 10) :: acc)
theorem decF_eq : ∀ (f u : Nat) (acc : List UInt8), u < 10 ^ (f + 1) → decF (f + 1) u acc = Lib.decDigits u ++ acc
  | f, u, acc, h => by
    rw [Lib.decDigits]
    unfold decF
    by_cases hu : u < 10
    · have : Nat.blt u 10 = true := Nat.ble_eq_true_of_le hu
      rw [this, dif_pos hu]; rfl
    · have : Nat.blt u 10 = false := by
        cases hb : Nat.blt u 10 with
        | false => rfl
        | true => exact (hu (Nat.le_of_ble_eq_true hb)).elim
      rw [this, dif_neg hu]
      simp only
      cases f with
      | zero => simp at h; omega
      | succ f =>
        rw [decF_eq f (u / 10) _ (by rw [Nat.pow_succ] at h; omega)]
        simp
def itoaF : Int → List UInt8
  | .ofNat n => decF 20 n []
  | .negSucc n => 45 :: decF 20 (n + 1) []
theorem itoaF_eq (n : Int) (h0 : -9223372036854775808 ≤ n) (h1 : n ≤ 9223372036854775807) : itoaF n = Lib.itoa n := by
  unfold itoaF Lib.itoa
  cases n with
  | ofNat n =>
    simp only [Int.ofNat_eq_natCast] at h1 ⊢
    rw [if_neg (by omega), decF_eq 19 n [] (by omega)]
    simp
  | negSucc n =>
    simp only
    rw [if_pos (Int.negSucc_lt_zero n), decF_eq 19 (n + 1) [] (by omega)]
    simp
def strsOf : List D → Option (List ByteArray)
  | [] => some []
  | .str s :: l => xbind (strsOf l) fun r => some (s :: r)
  | _ => none
theorem strsOf_eq : ∀ {l : List D} {ws : List ByteArray}, strsOf l = some ws → l = ws.map .str
  | [], ws, h => by cases h; rfl
  | x :: l, ws, h => by
    unfold strsOf at h
    split at h
    · cases h; simp_all
    · rename_i s l' he
      cases he
      obtain ⟨r, h1, h⟩ := xbind_some h
      cases h
      rw [strsOf_eq h1]; rfl
    · cases h
/- The item of the chapter's example. -/
def call0 (n : UInt8) : Gl := .mk 4 (.mk 0 [] 0 []) (.mk 0 [] 0 []) [n] [] []
def node0 (k : Int) (gs : List Gl) : Gl := .mk k (.mk 0 [] 0 []) (.mk 0 [] 0 []) [] [] gs
def it0 : It := ⟨4, [112], [], [], [], [], 0, [], node0 5 [node0 6 [call0 97, call0 98], node0 7 [node0 5 [call0 99, call0 100]]]⟩
def text0 : List UInt8 := [112, 32, 58, 45, 32, 40, 97, 32, 59, 32, 98, 41, 44, 32, 110, 111, 116, 32, 40, 99, 44, 32, 100, 41, 46, 10]
def z0 : List D := [.int .i64 0, .str ⟨⟨[]⟩⟩, .int .i64 0, .slice []]
def callD (n : UInt8) : D := .agg (.int .i64 4 :: (z0 ++ (z0 ++ [.str ⟨⟨[n]⟩⟩, .slice [], .slice []])))
def nodeD (k : Int) (gs : List D) : D := .agg (.int .i64 k :: (z0 ++ (z0 ++ [.str ⟨⟨[]⟩⟩, .slice [], .slice gs])))
def it0d : D := .agg ([.int .i64 4, .str ⟨⟨[112]⟩⟩, .slice [], .slice [], .slice [], .slice [], .int .i64 0, .slice []] ++ (.int .i64 5 :: (z0 ++ (z0 ++ [.str ⟨⟨[]⟩⟩, .slice [], .slice [nodeD 6 [callD 97, callD 98], nodeD 7 [nodeD 5 [callD 99, callD 100]]]]))))
theorem it0_d : it0.d = it0d := rfl
theorem it0_t : it0.t = text0 := rfl
theorem it0_ok : it0.ok := by
  simp [It.ok, it0, node0, call0, Gl.ok, Gl.oks, Tm.ok, Tm.oks, InR]
theorem source0_ok {eb : Nat → Addr} {mm : Nat → Option Obj} (hm : TabM mm) : ACall Tryz.prog (seatZ eb mm) 22 [.d (.slice [it0d])] (fun _ => none) (fun r _ => r = .d (.str ⟨⟨text0⟩⟩)) := by
  have h := source1_ok (eb := eb) (mm := mm) it0 (by rw [it0_t]; decide) (fun H K hK => item_ok hm it0 it0_ok (by decide +kernel) H K hK)
  rw [it0_d, it0_t] at h
  exact h

def libZ : XCall := fun f args S =>
  pickE (Nat.beq f 38) (match args with
    | [.d (.int .i64 n)] => xif (decide (-9223372036854775808 ≤ n) && decide (n ≤ 9223372036854775807)) (some (.d (.str ⟨⟨itoaF n⟩⟩), S))
    | _ => none) <|
  pickE (Nat.beq f 41) (match args with
    | [x, .d (.str sep)] => xbind (xdeep S x) fun p => match p.1 with
      | .slice ds => xbind (strsOf ds) fun ws => xif (Nat.ble ws.length 1000) (xif (Nat.ble (Lib.join (ws.map (·.data.toList)) sep.data.toList).length 100000) (some (.d (.str ⟨⟨Lib.join (ws.map (·.data.toList)) sep.data.toList⟩⟩), p.2)))
      | _ => none
    | _ => none) <|
  pickE (Nat.beq f 192) (match args with
    | [.d (.str s), .d (.int .u8 c)] => some (.d (.int .i64 (Lib.indexByte s.data.toList c.toNat.toUInt8)), S)
    | _ => none) <|
  pickE (Nat.beq f 22) (match args with
    | [x] => xbind (xdeep S x) fun p => match p.1 with
      | .slice [d] => xif (deq d it0d) (some (.d (.str ⟨⟨text0⟩⟩), p.2))
      | _ => none
    | _ => none) <|
  none
theorem libZ_ok {eb : Nat → Addr} {mm : Nat → Option Obj} (hm : TabM mm) : XCallOk Tryz.prog (seatZ eb mm) libZ := by
  intro f args S r S' h L U args' H K ra hH hK
  unfold libZ at h
  rcases pickE_some h with ⟨hb, g⟩ | g
  · clear h
    rw [Nat.eq_of_beq_eq_true hb]
    split at g
    · rename_i n
      obtain ⟨h1, h2⟩ := xif_some g
      simp only [Bool.and_eq_true, decide_eq_true_eq] at h1
      cases h2
      cases ra with
      | cons ra t =>
        cases t
        cases ra
        refine itoa_ok hm n h1.1 h1.2 ?_
        have := hK.here (y' := .d (.str ⟨⟨itoaF n⟩⟩)) (.d _) hH
        rw [itoaF_eq n h1.1 h1.2] at this
        exact this
    · cases g
  · clear h
    rcases pickE_some g with ⟨hb, h⟩ | h
    · clear g
      rw [Nat.eq_of_beq_eq_true hb]
      split at h
      · rename_i x sep
        obtain ⟨⟨d, S1⟩, h1, h5⟩ := xbind_some h
        clear h
        simp only at h5
        split at h5
        · rename_i ds
          obtain ⟨ws, h2, h6⟩ := xbind_some h5
          obtain ⟨h3, h7⟩ := xif_some h6
          obtain ⟨h4, h8⟩ := xif_some h7
          clear h5 h6 h7
          cases h8
          cases ra with
          | cons ra t =>
            cases t with
            | cons rb t =>
              cases t
              cases rb
              refine ACall.frz [true, false] ?_
              simp only [frzM]
              refine xdeep_sound h1 ra hH ?_
              intro H1 hH1
              rw [strsOf_eq h2]
              have h3 := ble_le h3
              have h4 := ble_le h4
              refine join_ok ws sep (by omega) (by omega) ?_
              exact hK.here (.d _) hH1
        · cases h5
      · cases h
    · rcases pickE_some h with ⟨hb, g2⟩ | g2
      · clear h g
        rw [Nat.eq_of_beq_eq_true hb]
        split at g2
        · rename_i s c
          cases g2
          cases ra with
          | cons ra t =>
            cases t with
            | cons rb t =>
              cases t; cases ra; cases rb
              exact indexByte_ok s c (hK.here (.d _) hH)
        · cases g2
      · clear h g
        rcases pickE_some g2 with ⟨hb, h⟩ | h
        · clear g2
          rw [Nat.eq_of_beq_eq_true hb]
          split at h
          · rename_i x
            obtain ⟨⟨d, S1⟩, h1, h5⟩ := xbind_some h
            clear h
            simp only at h5
            split at h5
            · rename_i d'
              obtain ⟨h2, h3⟩ := xif_some h5
              cases h3
              cases ra with
              | cons ra t =>
                cases t
                refine ACall.frz [true] ?_
                simp only [frzM]
                refine xdeep_sound h1 ra hH ?_
                intro H1 hH1
                rw [deq_eq h2]
                refine (ACall.keep (source0_ok hm)).mono ?_
                rintro r H' ⟨rfl, rfl⟩
                exact hK.here (.d _) hH1
            · cases h5
          · cases h
        · cases h

variable {eb : Nat → Addr} {mm : Nat → Option Obj}
noncomputable def runZ (eb : Nat → Addr) (mm : Nat → Option Obj) (lib : XCall) (n : Nat) (f : FuncId) (args : List A) : Option (A × XH) :=
  xcallBy Tryz.prog (seatZ eb mm) tabZ (xdefer Tryz.prog (seatZ eb mm) dtabZ lib) (xrun Tryz.prog (seatZ eb mm) (xcallBy Tryz.prog (seatZ eb mm) tabZ (xdefer Tryz.prog (seatZ eb mm) dtabZ lib)) n) f args xh0
end Go.Aug

/- alive of the layer of printing: the example, reckoned. -/
namespace Go.Aug
open Go.Proofs
set_option maxRecDepth 100000
variable {eb : Nat → Addr} {mm : Nat → Option Obj}
theorem alive6 (hm : TabM mm) (H : Heap) : ACall Tryz.prog (seatZ eb mm) 6 [] H fun r H' => r = .d (.bool true) ∧ H' = H :=
  ACall.keep (xclosed_ok (P := Tryz.prog) (V := seatZ eb mm) mixed tabZ_ok (fun rec hr => xdefer_ok mixed dtabZ_ok (libZ_ok hm) rec hr) (n := 200) (args := []) (by kernel_rfl) _)
end Go.Aug

/- PrintForms, of forms whose numbers are ints and that are not too large. -/
namespace Go.Aug
open Go.Proofs
set_option maxRecDepth 100000
set_option linter.unusedSimpArgs false

structure Fm where
  it : It
  g : Gl
  t : Tm
  x : Ty
def Fm.cs (z : Fm) : List D := z.it.cs ++ (z.g.cs ++ (z.t.cs ++ z.x.cs))
def Fm.d (z : Fm) : D := .agg z.cs
structure Fm.ok (z : Fm) : Prop where
  it : z.it.ok
  g : z.g.ok
  t : z.t.ok
  size : D.sizes z.cs ≤ 1048576
theorem It.cs_length (i : It) : i.cs.length = 20 := by
  obtain ⟨ik, iname, ivars, ictors, itypes, iins, idet, iargs, g⟩ := i
  obtain ⟨gk, ⟨ak, an, ai, aa⟩, ⟨bk, bn, bi, ba⟩, n, ga, gs⟩ := g
  rfl
theorem Gl.cs_length (g : Gl) : g.cs.length = 12 := by
  obtain ⟨gk, ⟨ak, an, ai, aa⟩, ⟨bk, bn, bi, ba⟩, n, ga, gs⟩ := g
  rfl
theorem Tm.cs_length (t : Tm) : t.cs.length = 4 := by obtain ⟨ak, an, ai, aa⟩ := t; rfl
theorem Ty.cs_length (t : Ty) : t.cs.length = 3 := by obtain ⟨v, n, a⟩ := t; rfl

theorem setMany_full {zs cs : List A} (h : zs.length = cs.length) : Go.Aug.setMany zs 0 cs = cs := by
  simp [Go.Aug.setMany, h]
theorem allD_ds : ∀ l : List D, allD (l.map A.d) = some l
  | [] => rfl
  | x :: l => by simp [allD, allD_ds l]
theorem aggN_ds (l : List D) : aggN (l.map A.d) = .d (.agg l) := by unfold aggN; rw [allD_ds]

attribute [local irreducible] hid andK letA onSome onVar onArr arrOnly onInt onBool onFunc onTup idxA ldV ldD addO ofPart appTo fillL slA srcK nilQ retW gif sgd sguard svc sops sdops sagain aopO aLoad aStore aBin aUn aConv aLen aIndexAddr aIndex aIndexAddrS aIndexS aSlice aAppend aBuild aBuildSlice aMakeSlice aField aFieldOf aCallOp deepK deepL frzM putE newK newV growV ACall roundQ thenQ inBlockQ sret cnd szs nilC onMap onRow aLookup aMapUpdate aMakeMap
variable {eb : Nat → Addr} {mm : Nat → Option Obj}

set_option maxHeartbeats 4000000 in
theorem printForms_ok (hm : TabM mm) (H : Heap) (z : Fm) (hz : z.ok) : ACall Tryz.prog (seatZ eb mm) 3 [.d z.d] H (fun r _ => r = .d (.bool true)) := by
  obtain ⟨i, g, t, x⟩ := z
  have hsz := hz.size
  simp only [Fm.cs, D.sizes_append] at hsz
  refine ACall.by mixed fn3 (by simp) ?_
  conv in s3 => cbv
  refine svc_start ?_
  have hL : (i.cs ++ (g.cs ++ (t.cs ++ x.cs))).length = 39 := by simp [It.cs_length, Gl.cs_length, Tm.cs_length, Ty.cs_length]
  have e1 : aggN (List.take 20 (List.map A.d (i.cs ++ (g.cs ++ (t.cs ++ x.cs))))) = .d i.d := by
    rw [← List.map_take, List.take_left' (It.cs_length i)]; exact aggN_ds _
  have e2 : aggN (List.take 12 (List.drop 20 (List.map A.d (i.cs ++ (g.cs ++ (t.cs ++ x.cs)))))) = .d g.d := by
    rw [← List.map_drop, ← List.map_take, List.drop_left' (It.cs_length i), List.take_left' (Gl.cs_length g)]; exact aggN_ds _
  have e3 : aggN (List.take 4 (List.drop 32 (List.map A.d (i.cs ++ (g.cs ++ (t.cs ++ x.cs)))))) = .d t.d := by
    rw [← List.map_drop, ← List.map_take, show (32 : Nat) = 20 + 12 from rfl, ← List.drop_drop, List.drop_left' (It.cs_length i), List.drop_left' (Gl.cs_length g), List.take_left' (Tm.cs_length t)]; exact aggN_ds _
  have e4 : aggN (List.take 3 (List.drop 36 (List.map A.d (i.cs ++ (g.cs ++ (t.cs ++ x.cs)))))) = .d x.d := by
    rw [← List.map_drop, ← List.map_take, show (36 : Nat) = 20 + (12 + 4) from rfl, ← List.drop_drop, ← List.drop_drop, List.drop_left' (It.cs_length i), List.drop_left' (Gl.cs_length g), List.drop_left' (Tm.cs_length t), List.take_of_length_le (by rw [Ty.cs_length]; exact Nat.le_refl _)]; exact aggN_ds _
  simp -dsimp (maxDischargeDepth := 9) only [go_sem, Nat.reduceBEq, Nat.reduceLT, Nat.reduceAdd, Nat.reduceSub, Nat.reduceMul, Nat.reduceLeDiff, Int.reduceLE, Int.toNat_natCast, Int.natCast_nonneg, List.getElem?_map, List.length_map, Nat.zero_add, eq_self, Bool.not_true, Bool.not_false, Fm.d, Fm.cs]
  refine newK_intro (fun b1 hb1 hn1 hm1 => ?_)
  generalize i.cs ++ (g.cs ++ (t.cs ++ x.cs)) = L at hL e1 e2 e3 e4 ⊢
  simp -dsimp (maxDischargeDepth := 9) only [go_sem, Nat.reduceBEq, Nat.reduceLT, Nat.reduceAdd, Nat.reduceSub, Nat.reduceMul, Nat.reduceLeDiff, Int.reduceLE, Int.toNat_natCast, Int.natCast_nonneg, List.getElem?_map, List.length_map, Nat.zero_add, eq_self, Bool.not_true, Bool.not_false]
  refine andK_split (by omega) ?_
  simp -dsimp (maxDischargeDepth := 9) only [go_sem, Nat.reduceBEq, Nat.reduceLT, Nat.reduceAdd, Nat.reduceSub, Nat.reduceMul, Nat.reduceLeDiff, Int.reduceLE, Int.toNat_natCast, Int.natCast_nonneg, List.getElem?_map, List.length_map, Nat.zero_add, eq_self, Bool.not_true, Bool.not_false, e1]
  refine andK_split (by omega) ?_
  simp -dsimp (maxDischargeDepth := 9) only [go_sem, Nat.reduceBEq, Nat.reduceLT, Nat.reduceAdd, Nat.reduceSub, Nat.reduceMul, Nat.reduceLeDiff, Int.reduceLE, Int.toNat_natCast, Int.natCast_nonneg, List.getElem?_map, List.length_map, Nat.zero_add, eq_self, Bool.not_true, Bool.not_false, e2]
  refine andK_split (by omega) ?_
  simp -dsimp (maxDischargeDepth := 9) only [go_sem, Nat.reduceBEq, Nat.reduceLT, Nat.reduceAdd, Nat.reduceSub, Nat.reduceMul, Nat.reduceLeDiff, Int.reduceLE, Int.toNat_natCast, Int.natCast_nonneg, List.getElem?_map, List.length_map, Nat.zero_add, eq_self, Bool.not_true, Bool.not_false, e3]
  refine andK_split (by omega) ?_
  simp -dsimp (maxDischargeDepth := 9) only [go_sem, Nat.reduceBEq, Nat.reduceLT, Nat.reduceAdd, Nat.reduceSub, Nat.reduceMul, Nat.reduceLeDiff, Int.reduceLE, Int.toNat_natCast, Int.natCast_nonneg, List.getElem?_map, List.length_map, Nat.zero_add, eq_self, Bool.not_true, Bool.not_false, e4]
  have c1 : i.d.cells.length = 20 := It.cs_length i
  have c2 : g.d.cells.length = 12 := Gl.cs_length g
  have c3 : t.d.cells.length = 4 := Tm.cs_length t
  have c4 : x.d.cells.length = 3 := Ty.cs_length x
  refine (fun (key : ∀ (b3 b4 b5 b6 : Nat) (G : Heap), G b3 = some (.var (i.cs.map A.d)) → G b4 = some (.var (g.cs.map A.d)) → G b5 = some (.var (t.cs.map A.d)) → G b6 = some (.var (x.cs.map A.d)) → LeH H G → (?T : Nat → Nat → Nat → Nat → Heap → Prop) b3 b4 b5 b6 G) => ?main) ?rest
  case main =>
    repeat' (first | (refine gif_split (fun h => ?_) (fun h => ?_) <;> (try simp -dsimp (maxDischargeDepth := 9) only [go_sem, Nat.reduceBEq, Nat.reduceLT, Nat.reduceAdd, Nat.reduceSub, Nat.reduceMul, Nat.reduceLeDiff, Int.reduceLE, Int.toNat_natCast, Int.natCast_nonneg, List.getElem?_map, List.length_map, Nat.zero_add, eq_self, Bool.not_true, Bool.not_false, *, e1, e2, e3, e4, setMany_full, List.length_cons, List.length_nil])) | (refine newV_intro (fun b v hb hn hm hv => ?_); (try simp -dsimp (maxDischargeDepth := 9) only [go_sem, Nat.reduceBEq, Nat.reduceLT, Nat.reduceAdd, Nat.reduceSub, Nat.reduceMul, Nat.reduceLeDiff, Int.reduceLE, Int.toNat_natCast, Int.natCast_nonneg, List.getElem?_map, List.length_map, Nat.zero_add, eq_self, Bool.not_true, Bool.not_false, *, e1, e2, e3, e4, setMany_full, List.length_cons, List.length_nil])) | (refine newK_intro (fun b hb hn hm => ?_); (try simp -dsimp (maxDischargeDepth := 9) only [go_sem, Nat.reduceBEq, Nat.reduceLT, Nat.reduceAdd, Nat.reduceSub, Nat.reduceMul, Nat.reduceLeDiff, Int.reduceLE, Int.toNat_natCast, Int.natCast_nonneg, List.getElem?_map, List.length_map, Nat.zero_add, eq_self, Bool.not_true, Bool.not_false, *, e1, e2, e3, e4, setMany_full, List.length_cons, List.length_nil])) | (refine growV_intro (fun b v hb hn hm hv => ?_); (try simp -dsimp (maxDischargeDepth := 9) only [go_sem, Nat.reduceBEq, Nat.reduceLT, Nat.reduceAdd, Nat.reduceSub, Nat.reduceMul, Nat.reduceLeDiff, Int.reduceLE, Int.toNat_natCast, Int.natCast_nonneg, List.getElem?_map, List.length_map, Nat.zero_add, eq_self, Bool.not_true, Bool.not_false, *, e1, e2, e3, e4, setMany_full, List.length_cons, List.length_nil])) | (refine andK_split (by omega) ?_; (try simp -dsimp (maxDischargeDepth := 9) only [go_sem, Nat.reduceBEq, Nat.reduceLT, Nat.reduceAdd, Nat.reduceSub, Nat.reduceMul, Nat.reduceLeDiff, Int.reduceLE, Int.toNat_natCast, Int.natCast_nonneg, List.getElem?_map, List.length_map, Nat.zero_add, eq_self, Bool.not_true, Bool.not_false, *, e1, e2, e3, e4, setMany_full, List.length_cons, List.length_nil])) | (refine nilQ_intro ?_ (fun h => ?_) <;> (try simp -dsimp (maxDischargeDepth := 9) only [go_sem, Nat.reduceBEq, Nat.reduceLT, Nat.reduceAdd, Nat.reduceSub, Nat.reduceMul, Nat.reduceLeDiff, Int.reduceLE, Int.toNat_natCast, Int.natCast_nonneg, List.getElem?_map, List.length_map, Nat.zero_add, eq_self, Bool.not_true, Bool.not_false, *, e1, e2, e3, e4, setMany_full, List.length_cons, List.length_nil])) | (refine And.intro ?_ ?_ <;> (try simp -dsimp (maxDischargeDepth := 9) only [go_sem, Nat.reduceBEq, Nat.reduceLT, Nat.reduceAdd, Nat.reduceSub, Nat.reduceMul, Nat.reduceLeDiff, Int.reduceLE, Int.toNat_natCast, Int.natCast_nonneg, List.getElem?_map, List.length_map, Nat.zero_add, eq_self, Bool.not_true, Bool.not_false, *, e1, e2, e3, e4, setMany_full, List.length_cons, List.length_nil])) | (refine (fun (v : Value) (hv : v.ownBlock = some _) => ?_); (try simp -dsimp (maxDischargeDepth := 9) only [go_sem, Nat.reduceBEq, Nat.reduceLT, Nat.reduceAdd, Nat.reduceSub, Nat.reduceMul, Nat.reduceLeDiff, Int.reduceLE, Int.toNat_natCast, Int.natCast_nonneg, List.getElem?_map, List.length_map, Nat.zero_add, eq_self, Bool.not_true, Bool.not_false, *, e1, e2, e3, e4, setMany_full, List.length_cons, List.length_nil])))
    · rename_i q1 q2 q3 q4 q5 q6 q7 q8 q9 q10 q11 q12
      generalize hG : upd _ b _ = G
      exact key q1 q5 q9 b G (by subst hG; simp -dsimp (maxDischargeDepth := 9) only [go_sem, Nat.reduceBEq, Nat.reduceLT, Nat.reduceAdd, Nat.reduceSub, Nat.reduceMul, Nat.reduceLeDiff, Int.reduceLE, Int.toNat_natCast, Int.natCast_nonneg, List.getElem?_map, List.length_map, Nat.zero_add, eq_self, Bool.not_true, Bool.not_false, *]; rfl) (by subst hG; simp -dsimp (maxDischargeDepth := 9) only [go_sem, Nat.reduceBEq, Nat.reduceLT, Nat.reduceAdd, Nat.reduceSub, Nat.reduceMul, Nat.reduceLeDiff, Int.reduceLE, Int.toNat_natCast, Int.natCast_nonneg, List.getElem?_map, List.length_map, Nat.zero_add, eq_self, Bool.not_true, Bool.not_false, *]; rfl) (by subst hG; simp -dsimp (maxDischargeDepth := 9) only [go_sem, Nat.reduceBEq, Nat.reduceLT, Nat.reduceAdd, Nat.reduceSub, Nat.reduceMul, Nat.reduceLeDiff, Int.reduceLE, Int.toNat_natCast, Int.natCast_nonneg, List.getElem?_map, List.length_map, Nat.zero_add, eq_self, Bool.not_true, Bool.not_false, *]; rfl) (by subst hG; simp -dsimp (maxDischargeDepth := 9) only [go_sem, Nat.reduceBEq, Nat.reduceLT, Nat.reduceAdd, Nat.reduceSub, Nat.reduceMul, Nat.reduceLeDiff, Int.reduceLE, Int.toNat_natCast, Int.natCast_nonneg, List.getElem?_map, List.length_map, Nat.zero_add, eq_self, Bool.not_true, Bool.not_false, *]; rfl) (by subst hG; repeat first | exact .refl _ | refine leH_upd (by first | assumption | exact upd_none (by assumption) | exact upd_none (upd_none (by assumption)) | exact upd_none (upd_none (upd_none (by assumption))) | exact upd_none (upd_none (upd_none (upd_none (by assumption))))) ?_)
    all_goals (
      generalize hG : upd _ _ _ = G
      exact key _ _ _ _ G (by subst hG; simp -dsimp (maxDischargeDepth := 9) only [go_sem, Nat.reduceBEq, Nat.reduceLT, Nat.reduceAdd, Nat.reduceSub, Nat.reduceMul, Nat.reduceLeDiff, Int.reduceLE, Int.toNat_natCast, Int.natCast_nonneg, List.getElem?_map, List.length_map, Nat.zero_add, eq_self, Bool.not_true, Bool.not_false, *]; rfl) (by subst hG; simp -dsimp (maxDischargeDepth := 9) only [go_sem, Nat.reduceBEq, Nat.reduceLT, Nat.reduceAdd, Nat.reduceSub, Nat.reduceMul, Nat.reduceLeDiff, Int.reduceLE, Int.toNat_natCast, Int.natCast_nonneg, List.getElem?_map, List.length_map, Nat.zero_add, eq_self, Bool.not_true, Bool.not_false, *]; rfl) (by subst hG; simp -dsimp (maxDischargeDepth := 9) only [go_sem, Nat.reduceBEq, Nat.reduceLT, Nat.reduceAdd, Nat.reduceSub, Nat.reduceMul, Nat.reduceLeDiff, Int.reduceLE, Int.toNat_natCast, Int.natCast_nonneg, List.getElem?_map, List.length_map, Nat.zero_add, eq_self, Bool.not_true, Bool.not_false, *]; rfl) (by subst hG; simp -dsimp (maxDischargeDepth := 9) only [go_sem, Nat.reduceBEq, Nat.reduceLT, Nat.reduceAdd, Nat.reduceSub, Nat.reduceMul, Nat.reduceLeDiff, Int.reduceLE, Int.toNat_natCast, Int.natCast_nonneg, List.getElem?_map, List.length_map, Nat.zero_add, eq_self, Bool.not_true, Bool.not_false, *]; rfl) (by subst hG; repeat first | exact .refl _ | refine leH_upd (by first | assumption | exact upd_none (by assumption) | exact upd_none (upd_none (by assumption)) | exact upd_none (upd_none (upd_none (by assumption))) | exact upd_none (upd_none (upd_none (upd_none (by assumption))))) ?_))
  case rest =>
    rintro b3 b4 b5 b6 G g3 g4 g5 g6 hle
    refine (alive6 hm _).mono ?_
    rintro r G' ⟨rfl, rfl⟩
    have l1 := It.cs_length i
    have l2 := Gl.cs_length g
    have l3 := Tm.cs_length t
    have l4 := Ty.cs_length x
    have k1 : aggN (List.take 20 (List.map A.d i.cs)) = .d i.d := by rw [← List.map_take, List.take_of_length_le (by omega)]; exact aggN_ds _
    have k2 : aggN (List.take 12 (List.map A.d g.cs)) = .d g.d := by rw [← List.map_take, List.take_of_length_le (by omega)]; exact aggN_ds _
    have k3 : aggN (List.take 4 (List.map A.d t.cs)) = .d t.d := by rw [← List.map_take, List.take_of_length_le (by omega)]; exact aggN_ds _
    have k4 : aggN (List.take 3 (List.map A.d x.cs)) = .d x.d := by rw [← List.map_take, List.take_of_length_le (by omega)]; exact aggN_ds _
    clear hn1 hm1 e1 e2 e3 e4 hL hb1 c1 c2 c3 c4
    simp -dsimp (maxDischargeDepth := 9) only [go_sem, Nat.reduceBEq, Nat.reduceLT, Nat.reduceAdd, Nat.reduceSub, Nat.reduceMul, Nat.reduceLeDiff, Int.reduceLE, Int.toNat_natCast, Int.natCast_nonneg, List.getElem?_map, List.length_map, Nat.zero_add, eq_self, Bool.not_true, Bool.not_false, g3, g4, g5, g6]
    repeat' (first | (refine gif_split (fun h => ?_) (fun h => ?_) <;> (try simp -dsimp (maxDischargeDepth := 9) only [go_sem, Nat.reduceBEq, Nat.reduceLT, Nat.reduceAdd, Nat.reduceSub, Nat.reduceMul, Nat.reduceLeDiff, Int.reduceLE, Int.toNat_natCast, Int.natCast_nonneg, List.getElem?_map, List.length_map, Nat.zero_add, eq_self, Bool.not_true, Bool.not_false, *, k1, k2, k3, k4])) | (refine newV_intro (fun b v hb hn hm hv => ?_); (try simp -dsimp (maxDischargeDepth := 9) only [go_sem, Nat.reduceBEq, Nat.reduceLT, Nat.reduceAdd, Nat.reduceSub, Nat.reduceMul, Nat.reduceLeDiff, Int.reduceLE, Int.toNat_natCast, Int.natCast_nonneg, List.getElem?_map, List.length_map, Nat.zero_add, eq_self, Bool.not_true, Bool.not_false, *, k1, k2, k3, k4])) | (refine newK_intro (fun b hb hn hm => ?_); (try simp -dsimp (maxDischargeDepth := 9) only [go_sem, Nat.reduceBEq, Nat.reduceLT, Nat.reduceAdd, Nat.reduceSub, Nat.reduceMul, Nat.reduceLeDiff, Int.reduceLE, Int.toNat_natCast, Int.natCast_nonneg, List.getElem?_map, List.length_map, Nat.zero_add, eq_self, Bool.not_true, Bool.not_false, *, k1, k2, k3, k4])) | (refine growV_intro (fun b v hb hn hm hv => ?_); (try simp -dsimp (maxDischargeDepth := 9) only [go_sem, Nat.reduceBEq, Nat.reduceLT, Nat.reduceAdd, Nat.reduceSub, Nat.reduceMul, Nat.reduceLeDiff, Int.reduceLE, Int.toNat_natCast, Int.natCast_nonneg, List.getElem?_map, List.length_map, Nat.zero_add, eq_self, Bool.not_true, Bool.not_false, *, k1, k2, k3, k4])) | (refine andK_split (by omega) ?_; (try simp -dsimp (maxDischargeDepth := 9) only [go_sem, Nat.reduceBEq, Nat.reduceLT, Nat.reduceAdd, Nat.reduceSub, Nat.reduceMul, Nat.reduceLeDiff, Int.reduceLE, Int.toNat_natCast, Int.natCast_nonneg, List.getElem?_map, List.length_map, Nat.zero_add, eq_self, Bool.not_true, Bool.not_false, *, k1, k2, k3, k4])) | (refine nilQ_intro ?_ (fun h => ?_) <;> (try simp -dsimp (maxDischargeDepth := 9) only [go_sem, Nat.reduceBEq, Nat.reduceLT, Nat.reduceAdd, Nat.reduceSub, Nat.reduceMul, Nat.reduceLeDiff, Int.reduceLE, Int.toNat_natCast, Int.natCast_nonneg, List.getElem?_map, List.length_map, Nat.zero_add, eq_self, Bool.not_true, Bool.not_false, *, k1, k2, k3, k4])) | (refine And.intro ?_ ?_ <;> (try simp -dsimp (maxDischargeDepth := 9) only [go_sem, Nat.reduceBEq, Nat.reduceLT, Nat.reduceAdd, Nat.reduceSub, Nat.reduceMul, Nat.reduceLeDiff, Int.reduceLE, Int.toNat_natCast, Int.natCast_nonneg, List.getElem?_map, List.length_map, Nat.zero_add, eq_self, Bool.not_true, Bool.not_false, *, k1, k2, k3, k4])) | (refine (fun (v : Value) (hv : v.ownBlock = some _) => ?_); (try simp -dsimp (maxDischargeDepth := 9) only [go_sem, Nat.reduceBEq, Nat.reduceLT, Nat.reduceAdd, Nat.reduceSub, Nat.reduceMul, Nat.reduceLeDiff, Int.reduceLE, Int.toNat_natCast, Int.natCast_nonneg, List.getElem?_map, List.length_map, Nat.zero_add, eq_self, Bool.not_true, Bool.not_false, *, k1, k2, k3, k4])) | (refine item_ok hm i hz.it (by omega) _ _ ?_; (try simp -dsimp (maxDischargeDepth := 9) only [go_sem, Nat.reduceBEq, Nat.reduceLT, Nat.reduceAdd, Nat.reduceSub, Nat.reduceMul, Nat.reduceLeDiff, Int.reduceLE, Int.toNat_natCast, Int.natCast_nonneg, List.getElem?_map, List.length_map, Nat.zero_add, eq_self, Bool.not_true, Bool.not_false, *, k1, k2, k3, k4])) | (refine ritem_ok i hz.it (by omega) _ _ ?_; (try simp -dsimp (maxDischargeDepth := 9) only [go_sem, Nat.reduceBEq, Nat.reduceLT, Nat.reduceAdd, Nat.reduceSub, Nat.reduceMul, Nat.reduceLeDiff, Int.reduceLE, Int.toNat_natCast, Int.natCast_nonneg, List.getElem?_map, List.length_map, Nat.zero_add, eq_self, Bool.not_true, Bool.not_false, *, k1, k2, k3, k4])) | (refine goal_ok hm g hz.g (by omega) _ _ ?_; (try simp -dsimp (maxDischargeDepth := 9) only [go_sem, Nat.reduceBEq, Nat.reduceLT, Nat.reduceAdd, Nat.reduceSub, Nat.reduceMul, Nat.reduceLeDiff, Int.reduceLE, Int.toNat_natCast, Int.natCast_nonneg, List.getElem?_map, List.length_map, Nat.zero_add, eq_self, Bool.not_true, Bool.not_false, *, k1, k2, k3, k4])) | (refine rgoal_ok g hz.g (by omega) _ _ ?_; (try simp -dsimp (maxDischargeDepth := 9) only [go_sem, Nat.reduceBEq, Nat.reduceLT, Nat.reduceAdd, Nat.reduceSub, Nat.reduceMul, Nat.reduceLeDiff, Int.reduceLE, Int.toNat_natCast, Int.natCast_nonneg, List.getElem?_map, List.length_map, Nat.zero_add, eq_self, Bool.not_true, Bool.not_false, *, k1, k2, k3, k4])) | (refine term_ok hm t hz.t (by omega) _ _ ?_; (try simp -dsimp (maxDischargeDepth := 9) only [go_sem, Nat.reduceBEq, Nat.reduceLT, Nat.reduceAdd, Nat.reduceSub, Nat.reduceMul, Nat.reduceLeDiff, Int.reduceLE, Int.toNat_natCast, Int.natCast_nonneg, List.getElem?_map, List.length_map, Nat.zero_add, eq_self, Bool.not_true, Bool.not_false, *, k1, k2, k3, k4])) | (refine rterm_ok t hz.t (by omega) _ _ ?_; (try simp -dsimp (maxDischargeDepth := 9) only [go_sem, Nat.reduceBEq, Nat.reduceLT, Nat.reduceAdd, Nat.reduceSub, Nat.reduceMul, Nat.reduceLeDiff, Int.reduceLE, Int.toNat_natCast, Int.natCast_nonneg, List.getElem?_map, List.length_map, Nat.zero_add, eq_self, Bool.not_true, Bool.not_false, *, k1, k2, k3, k4])) | (refine type_ok x (by omega) _ _ ?_; (try simp -dsimp (maxDischargeDepth := 9) only [go_sem, Nat.reduceBEq, Nat.reduceLT, Nat.reduceAdd, Nat.reduceSub, Nat.reduceMul, Nat.reduceLeDiff, Int.reduceLE, Int.toNat_natCast, Int.natCast_nonneg, List.getElem?_map, List.length_map, Nat.zero_add, eq_self, Bool.not_true, Bool.not_false, *, k1, k2, k3, k4])) | (refine rtype_ok x (by omega) _ _ ?_; (try simp -dsimp (maxDischargeDepth := 9) only [go_sem, Nat.reduceBEq, Nat.reduceLT, Nat.reduceAdd, Nat.reduceSub, Nat.reduceMul, Nat.reduceLeDiff, Int.reduceLE, Int.toNat_natCast, Int.natCast_nonneg, List.getElem?_map, List.length_map, Nat.zero_add, eq_self, Bool.not_true, Bool.not_false, *, k1, k2, k3, k4])))
    all_goals exact retW_is rfl
end Go.Aug

/- What is read as data of the types of forms. -/
namespace Go.Aug
open Go.Proofs
set_option maxRecDepth 100000

theorem len2 {α : Type} {l : List α} (h : l.length = 2) : ∃ a b, l = [a, b] := by
  match l, h with
  | [a, b], _ => exact ⟨a, b, rfl⟩
theorem len3 {α : Type} {l : List α} (h : l.length = 3) : ∃ a b c, l = [a, b, c] := by
  match l, h with
  | [a, b, c], _ => exact ⟨a, b, c, rfl⟩
theorem len12 {α : Type} {l : List α} (h : l.length = 12) : ∃ x0 x1 x2 x3 x4 x5 x6 x7 x8 x9 x10 x11, l = [x0, x1, x2, x3, x4, x5, x6, x7, x8, x9, x10, x11] := by
  match l, h with
  | [x0, x1, x2, x3, x4, x5, x6, x7, x8, x9, x10, x11], _ => exact ⟨_, _, _, _, _, _, _, _, _, _, _, _, rfl⟩
theorem len8 {α : Type} {l : List α} (h : 8 ≤ l.length) : ∃ x0 x1 x2 x3 x4 x5 x6 x7 r, l = x0 :: x1 :: x2 :: x3 :: x4 :: x5 :: x6 :: x7 :: r := by
  match l, h with
  | x0 :: x1 :: x2 :: x3 :: x4 :: x5 :: x6 :: x7 :: r, _ => exact ⟨_, _, _, _, _, _, _, _, _, rfl⟩

theorem cells28 : Tryz.prog.cellsOf 28 = 4 := by kernel_rfl
theorem cells35 : Tryz.prog.cellsOf 35 = 3 := by kernel_rfl
theorem cells31 : Tryz.prog.cellsOf 31 = 12 := by kernel_rfl
theorem cells33 : Tryz.prog.cellsOf 33 = 20 := by kernel_rfl
theorem cells37 : Tryz.prog.cellsOf 37 = 39 := by kernel_rfl
theorem cells75 : Tryz.prog.cellsOf 75 = 2 := by kernel_rfl
theorem cells3 : Tryz.prog.cellsOf 3 = 1 := by kernel_rfl
theorem cells4 : Tryz.prog.cellsOf 4 = 1 := by kernel_rfl
theorem cells22 : Tryz.prog.cellsOf 22 = 1 := by kernel_rfl
theorem cells23 : Tryz.prog.cellsOf 23 = 1 := by kernel_rfl
theorem cells24 : Tryz.prog.cellsOf 24 = 1 := by kernel_rfl
theorem cells25 : Tryz.prog.cellsOf 25 = 1 := by kernel_rfl
theorem cells26 : Tryz.prog.cellsOf 26 = 1 := by kernel_rfl
theorem cells29 : Tryz.prog.cellsOf 29 = 1 := by kernel_rfl
theorem cellsStr : Tryz.prog.cellsOf 9 = 1 := by kernel_rfl
theorem closed37 : closedT Tryz.prog [3, 4, 9, 22, 23, 24, 25, 26, 28, 29, 31, 33, 35, 37, 75] = true := by kernel_rfl

theorem hasT_intR {P : Program} {n : Nat} {t : TypeId} {ds : List D} (hu : P.underlying t = some (.int .i64)) (h : HasT P n t ds) : ∃ m, ds = [.int .i64 m] ∧ InR m := by
  cases n with
  | zero => exact h.elim
  | succ n =>
    simp only [HasT, hu] at h
    obtain ⟨m, e, hw⟩ := h
    refine ⟨m, e, ?_⟩
    simpa [InR, Lit.wf, IntKind.min, IntKind.max, IntKind.signed, IntKind.bits] using hw
theorem str_S (s : ByteArray) : D.str s = S s.data.toList := by cases s; simp [S]
theorem hasT_S {n : Nat} {ds : List D} (h : HasT Tryz.prog n 9 ds) : ∃ s : Str, ds = [S s] := by
  obtain ⟨s, rfl⟩ := hasT_str Tryz.underlying9 h
  exact ⟨_, by rw [str_S]⟩
theorem map_ofP {α β γ : Type} {f : α → γ} {g : β → γ} {p : β → Prop} : ∀ {l : List α}, (∀ x ∈ l, ∃ y, f x = g y ∧ p y) → ∃ m : List β, l.map f = m.map g ∧ ∀ y ∈ m, p y
  | [], _ => ⟨[], rfl, fun y hy => by cases hy⟩
  | x :: l, h => by
    obtain ⟨y, hy, hp⟩ := h x (by simp)
    obtain ⟨m, hm, hq⟩ := map_ofP (l := l) (fun z hz => h z (by simp [hz]))
    refine ⟨y :: m, by simp [hy, hm], fun z hz => ?_⟩
    rcases List.mem_cons.1 hz with rfl | hz
    · exact hp
    · exact hq z hz
theorem Tm.oks_of : ∀ {l : List Tm}, (∀ t ∈ l, t.ok) → Tm.oks l
  | [], _ => trivial
  | t :: l, h => ⟨h t (by simp), Tm.oks_of fun x hx => h x (by simp [hx])⟩
theorem Gl.oks_of : ∀ {l : List Gl}, (∀ t ∈ l, t.ok) → Gl.oks l
  | [], _ => trivial
  | t :: l, h => ⟨h t (by simp), Gl.oks_of fun x hx => h x (by simp [hx])⟩

theorem hasT_tm : ∀ (n : Nat) (ds : List D), HasT Tryz.prog n 28 ds → ∃ t : Tm, ds = t.cs ∧ t.ok
  | 0, _, h => h.elim
  | n + 1, ds, h => by
    obtain ⟨m, hm, hl, hf⟩ := hasT_struct Tryz.underlying28 h
    obtain rfl : m = n := by omega
    rw [cells28] at hl
    obtain ⟨a, b, c, d, rfl⟩ := len4 hl
    have h0 : HasT Tryz.prog m 3 (([a, b, c, d].drop 0).take (Tryz.prog.cellsOf 3)) := hf 0 _ rfl
    have h1 : HasT Tryz.prog m 9 (([a, b, c, d].drop 1).take (Tryz.prog.cellsOf 9)) := hf 1 _ rfl
    have h2 : HasT Tryz.prog m 3 (([a, b, c, d].drop 2).take (Tryz.prog.cellsOf 3)) := hf 2 _ rfl
    have h3 : HasT Tryz.prog m 26 (([a, b, c, d].drop 3).take (Tryz.prog.cellsOf 26)) := hf 3 _ rfl
    simp only [cells3, cellsStr, cells26] at h0 h1 h2 h3
    obtain ⟨k, hk, rk⟩ := hasT_intR Tryz.underlying3 h0
    obtain ⟨s, hs⟩ := hasT_S h1
    obtain ⟨v, hv, rv⟩ := hasT_intR Tryz.underlying3 h2
    obtain ⟨q, ess, hq, he, hess⟩ := hasT_slice Tryz.underlying26 h3
    simp at hk hs hv he
    subst hk hs hv he hq
    obtain ⟨l, hl, hok⟩ := map_ofP (f := Aug.elemOf Tryz.prog 28) (g := Tm.d) (p := Tm.ok) (l := ess) (fun cs hcs => by
      obtain ⟨t, ht, hto⟩ := hasT_tm q cs (match q, hess with | q, h => h cs hcs)
      exact ⟨t, by rw [ht]; simp only [Aug.elemOf, Tryz.underlying28]; rfl, hto⟩)
    exact ⟨.mk k s v l, by rw [Tm.cs, Tm.ds_map, hl], rk, rv, Tm.oks_of hok⟩
theorem hasT_tms {n : Nat} {ds : List D} (h : HasT Tryz.prog n 26 ds) : ∃ l : List Tm, ds = [.slice (Tm.ds l)] ∧ Tm.oks l := by
  obtain ⟨m, ess, _, rfl, hess⟩ := hasT_slice Tryz.underlying26 h
  obtain ⟨l, hl, hok⟩ := map_ofP (f := Aug.elemOf Tryz.prog 28) (g := Tm.d) (p := Tm.ok) (l := ess) (fun cs hcs => by
    obtain ⟨t, ht, hto⟩ := hasT_tm m cs (hess cs hcs)
    exact ⟨t, by rw [ht]; simp only [Aug.elemOf, Tryz.underlying28]; rfl, hto⟩)
  exact ⟨l, by rw [hl, Tm.ds_map], Tm.oks_of hok⟩

theorem hasT_ty : ∀ (n : Nat) (ds : List D), HasT Tryz.prog n 35 ds → ∃ t : Ty, ds = t.cs
  | 0, _, h => h.elim
  | n + 1, ds, h => by
    obtain ⟨m, hm, hl, hf⟩ := hasT_struct Tryz.underlying35 h
    obtain rfl : m = n := by omega
    rw [cells35] at hl
    obtain ⟨a, b, c, rfl⟩ := len3 hl
    have h0 : HasT Tryz.prog m 4 (([a, b, c].drop 0).take (Tryz.prog.cellsOf 4)) := hf 0 _ rfl
    have h1 : HasT Tryz.prog m 9 (([a, b, c].drop 1).take (Tryz.prog.cellsOf 9)) := hf 1 _ rfl
    have h3 : HasT Tryz.prog m 24 (([a, b, c].drop 2).take (Tryz.prog.cellsOf 24)) := hf 2 _ rfl
    simp only [cells4, cellsStr, cells24] at h0 h1 h3
    obtain ⟨k, hk⟩ := hasT_bool Tryz.underlying4 h0
    obtain ⟨s, hs⟩ := hasT_S h1
    obtain ⟨q, ess, hq, he, hess⟩ := hasT_slice Tryz.underlying24 h3
    simp at hk hs he
    subst hk hs he hq
    obtain ⟨l, hl⟩ := map_of (f := Aug.elemOf Tryz.prog 35) (g := Ty.d) (l := ess) (fun cs hcs => by
      obtain ⟨t, ht⟩ := hasT_ty q cs (match q, hess with | q, h => h cs hcs)
      exact ⟨t, by rw [ht]; simp only [Aug.elemOf, Tryz.underlying35]; rfl⟩)
    exact ⟨.mk k s l, by rw [Ty.cs, Ty.ds_map, hl]⟩
theorem hasT_tys {n : Nat} {ds : List D} (h : HasT Tryz.prog n 24 ds) : ∃ l : List Ty, ds = [.slice (Ty.ds l)] := by
  obtain ⟨m, ess, _, rfl, hess⟩ := hasT_slice Tryz.underlying24 h
  obtain ⟨l, hl⟩ := map_of (f := Aug.elemOf Tryz.prog 35) (g := Ty.d) (l := ess) (fun cs hcs => by
    obtain ⟨t, ht⟩ := hasT_ty m cs (hess cs hcs)
    exact ⟨t, by rw [ht]; simp only [Aug.elemOf, Tryz.underlying35]; rfl⟩)
  exact ⟨l, by rw [hl, Ty.ds_map]⟩

theorem hasT_gl : ∀ (n : Nat) (ds : List D), HasT Tryz.prog n 31 ds → ∃ g : Gl, ds = g.cs ∧ g.ok
  | 0, _, h => h.elim
  | n + 1, ds, h => by
    obtain ⟨m, hm, hl, hf⟩ := hasT_struct Tryz.underlying31 h
    obtain rfl : m = n := by omega
    rw [cells31] at hl
    obtain ⟨x0, x1, x2, x3, x4, x5, x6, x7, x8, x9, x10, x11, rfl⟩ := len12 hl
    have h0 : HasT Tryz.prog m 3 (([x0, x1, x2, x3, x4, x5, x6, x7, x8, x9, x10, x11].drop 0).take (Tryz.prog.cellsOf 3)) := hf 0 _ rfl
    have h1 : HasT Tryz.prog m 28 (([x0, x1, x2, x3, x4, x5, x6, x7, x8, x9, x10, x11].drop 1).take (Tryz.prog.cellsOf 28)) := hf 1 _ rfl
    have h2 : HasT Tryz.prog m 28 (([x0, x1, x2, x3, x4, x5, x6, x7, x8, x9, x10, x11].drop 5).take (Tryz.prog.cellsOf 28)) := hf 2 _ rfl
    have h3 : HasT Tryz.prog m 9 (([x0, x1, x2, x3, x4, x5, x6, x7, x8, x9, x10, x11].drop 9).take (Tryz.prog.cellsOf 9)) := hf 3 _ rfl
    have h4 : HasT Tryz.prog m 26 (([x0, x1, x2, x3, x4, x5, x6, x7, x8, x9, x10, x11].drop 10).take (Tryz.prog.cellsOf 26)) := hf 4 _ rfl
    have h5 : HasT Tryz.prog m 29 (([x0, x1, x2, x3, x4, x5, x6, x7, x8, x9, x10, x11].drop 11).take (Tryz.prog.cellsOf 29)) := hf 5 _ rfl
    simp only [cells3, cells28, cellsStr, cells26, cells29] at h0 h1 h2 h3 h4 h5
    obtain ⟨k, hk, rk⟩ := hasT_intR Tryz.underlying3 h0
    obtain ⟨a, ha, hao⟩ := hasT_tm _ _ h1
    obtain ⟨b, hb, hbo⟩ := hasT_tm _ _ h2
    obtain ⟨s, hs⟩ := hasT_S h3
    obtain ⟨l, he, hlo⟩ := hasT_tms h4
    obtain ⟨q, ess, hq, he2, hess⟩ := hasT_slice Tryz.underlying29 h5
    simp at hk ha hb hs he he2
    subst hk hs he he2 hq
    obtain ⟨gs, hgs, hgo⟩ := map_ofP (f := Aug.elemOf Tryz.prog 31) (g := Gl.d) (p := Gl.ok) (l := ess) (fun cs hcs => by
      obtain ⟨t, ht, hto⟩ := hasT_gl q cs (match q, hess with | q, h => h cs hcs)
      exact ⟨t, by rw [ht]; simp only [Aug.elemOf, Tryz.underlying31]; rfl, hto⟩)
    exact ⟨.mk k a b s l gs, by rw [Gl.cs, Gl.ds_map, hgs, ← ha, ← hb]; rfl, rk, hao, hbo, hlo, Gl.oks_of hgo⟩

theorem hasT_it {n : Nat} {ds : List D} (h : HasT Tryz.prog n 33 ds) : ∃ i : It, ds = i.cs ∧ i.ok := by
  obtain ⟨m, _, hl, hf⟩ := hasT_struct Tryz.underlying33 h
  rw [cells33] at hl
  obtain ⟨x0, x1, x2, x3, x4, x5, x6, x7, r, rfl⟩ := len8 (by omega : 8 ≤ ds.length)
  have h0 : HasT Tryz.prog m 3 (((x0 :: x1 :: x2 :: x3 :: x4 :: x5 :: x6 :: x7 :: r).drop 0).take (Tryz.prog.cellsOf 3)) := hf 0 _ rfl
  have h1 : HasT Tryz.prog m 9 (((x0 :: x1 :: x2 :: x3 :: x4 :: x5 :: x6 :: x7 :: r).drop 1).take (Tryz.prog.cellsOf 9)) := hf 1 _ rfl
  have h2 : HasT Tryz.prog m 22 (((x0 :: x1 :: x2 :: x3 :: x4 :: x5 :: x6 :: x7 :: r).drop 2).take (Tryz.prog.cellsOf 22)) := hf 2 _ rfl
  have h3 : HasT Tryz.prog m 23 (((x0 :: x1 :: x2 :: x3 :: x4 :: x5 :: x6 :: x7 :: r).drop 3).take (Tryz.prog.cellsOf 23)) := hf 3 _ rfl
  have h4 : HasT Tryz.prog m 24 (((x0 :: x1 :: x2 :: x3 :: x4 :: x5 :: x6 :: x7 :: r).drop 4).take (Tryz.prog.cellsOf 24)) := hf 4 _ rfl
  have h5 : HasT Tryz.prog m 25 (((x0 :: x1 :: x2 :: x3 :: x4 :: x5 :: x6 :: x7 :: r).drop 5).take (Tryz.prog.cellsOf 25)) := hf 5 _ rfl
  have h6 : HasT Tryz.prog m 3 (((x0 :: x1 :: x2 :: x3 :: x4 :: x5 :: x6 :: x7 :: r).drop 6).take (Tryz.prog.cellsOf 3)) := hf 6 _ rfl
  have h7 : HasT Tryz.prog m 26 (((x0 :: x1 :: x2 :: x3 :: x4 :: x5 :: x6 :: x7 :: r).drop 7).take (Tryz.prog.cellsOf 26)) := hf 7 _ rfl
  have h8 : HasT Tryz.prog m 31 (((x0 :: x1 :: x2 :: x3 :: x4 :: x5 :: x6 :: x7 :: r).drop 8).take (Tryz.prog.cellsOf 31)) := hf 8 _ rfl
  have hr : r.length = 12 := by simpa using hl
  simp only [cells3, cellsStr, cells22, cells23, cells24, cells25, cells26, cells31, List.drop_succ_cons, List.drop_zero, List.take_succ_cons, List.take_zero] at h0 h1 h2 h3 h4 h5 h6 h7 h8
  rw [List.take_of_length_le (by omega)] at h8
  obtain ⟨k, hk, _⟩ := hasT_intR Tryz.underlying3 h0
  obtain ⟨s, hs⟩ := hasT_S h1
  obtain ⟨d, hd, _⟩ := hasT_intR Tryz.underlying3 h6
  obtain ⟨tl, ht⟩ := hasT_tys h4
  obtain ⟨al, ha, hao⟩ := hasT_tms h7
  obtain ⟨g, hg, hgo⟩ := hasT_gl _ _ h8
  obtain ⟨_, es2, _, e2, hes2⟩ := hasT_slice Tryz.underlying22 h2
  obtain ⟨_, es3, _, e3, hes3⟩ := hasT_slice Tryz.underlying23 h3
  obtain ⟨_, es5, _, e5, hes5⟩ := hasT_slice Tryz.underlying25 h5
  obtain ⟨vl, hvl⟩ := map_of (f := Aug.elemOf Tryz.prog 9) (g := S) (l := es2) (fun cs hcs => by
    obtain ⟨t, rfl⟩ := hasT_S (hes2 cs hcs)
    exact ⟨t, by simp only [Aug.elemOf, Tryz.underlying9, List.headD_cons]⟩)
  obtain ⟨bl, hbl⟩ := map_of (f := Aug.elemOf Tryz.prog 4) (g := D.bool) (l := es5) (fun cs hcs => by
    obtain ⟨t, rfl⟩ := hasT_bool Tryz.underlying4 (hes5 cs hcs)
    exact ⟨t, by simp only [Aug.elemOf, Tryz.underlying4, List.headD_cons]⟩)
  obtain ⟨cl, hcl⟩ := map_of (f := Aug.elemOf Tryz.prog 75) (g := Ct.d) (l := es3) (fun cs hcs => by
    obtain ⟨m', _, hl', hf'⟩ := hasT_struct Tryz.underlying75 (hes3 cs hcs)
    rw [cells75] at hl'
    obtain ⟨a, b, rfl⟩ := len2 hl'
    have q0 : HasT Tryz.prog m' 9 (([a, b].drop 0).take (Tryz.prog.cellsOf 9)) := hf' 0 _ rfl
    have q1 : HasT Tryz.prog m' 24 (([a, b].drop 1).take (Tryz.prog.cellsOf 24)) := hf' 1 _ rfl
    simp only [cellsStr, cells24] at q0 q1
    obtain ⟨cn, hcn⟩ := hasT_S q0
    obtain ⟨ca, hca⟩ := hasT_tys q1
    simp at hcn hca
    subst hcn hca
    exact ⟨⟨cn, ca⟩, by simp only [Aug.elemOf, Tryz.underlying75]; rfl⟩)
  rw [hvl] at e2
  rw [hbl] at e5
  rw [hcl] at e3
  simp at hk hs hd ht ha e2 e3 e5
  subst hk hs hd ht ha e2 e3 e5 hg
  exact ⟨⟨k, s, vl, cl, tl, bl, d, al, g⟩, rfl, hao, hgo⟩

theorem hasT_fm {n : Nat} {ds : List D} (h : HasT Tryz.prog n 37 ds) (hs : D.sizes ds ≤ 1048576) : ∃ z : Fm, ds = z.cs ∧ z.ok := by
  obtain ⟨m, _, hl, hf⟩ := hasT_struct Tryz.underlying37 h
  rw [cells37] at hl
  have h0 : HasT Tryz.prog m 33 ((ds.drop 0).take (Tryz.prog.cellsOf 33)) := hf 0 _ rfl
  have h1 : HasT Tryz.prog m 31 ((ds.drop 20).take (Tryz.prog.cellsOf 31)) := hf 1 _ rfl
  have h2 : HasT Tryz.prog m 28 ((ds.drop 32).take (Tryz.prog.cellsOf 28)) := hf 2 _ rfl
  have h3 : HasT Tryz.prog m 35 ((ds.drop 36).take (Tryz.prog.cellsOf 35)) := hf 3 _ rfl
  rw [cells33, List.drop_zero] at h0
  rw [cells31] at h1
  rw [cells28] at h2
  rw [cells35] at h3
  obtain ⟨i, hi, io⟩ := hasT_it h0
  obtain ⟨g, hg, go⟩ := hasT_gl _ _ h1
  obtain ⟨t, ht, to⟩ := hasT_tm _ _ h2
  obtain ⟨x, hx⟩ := hasT_ty _ _ h3
  have e : ds = i.cs ++ (g.cs ++ (t.cs ++ x.cs)) := by
    rw [← hi, ← hg, ← ht, ← hx]
    have e3 : (ds.drop 36).take 3 = ds.drop 36 := List.take_of_length_le (by simp; omega)
    have e2 : (ds.drop 32).take 4 ++ ds.drop 36 = ds.drop 32 := by
      have := List.take_append_drop 4 (ds.drop 32)
      rwa [List.drop_drop] at this
    have e1 : (ds.drop 20).take 12 ++ ds.drop 32 = ds.drop 20 := by
      have := List.take_append_drop 12 (ds.drop 20)
      rwa [List.drop_drop] at this
    rw [e3, e2, e1, List.take_append_drop]
  exact ⟨⟨i, g, t, x⟩, e, ⟨io, go, to, by rw [show Fm.cs ⟨i, g, t, x⟩ = ds from e.symm]; exact hs⟩⟩

end Go.Aug
