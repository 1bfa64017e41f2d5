/- The contracts of print's functions of goals, types and items, and of the reference's; conditions stand in each contract. -/
import Derived.Test.YtjbafnbkcjoohaaGreatDoorPrintOne
set_option linter.all false
set_option linter.unusedVariables false
set_option linter.unusedSimpArgs false
set_option linter.unusedSectionVars false

/- The forms of goals: Goal. -/
namespace Go.Aug
open Go.Proofs
set_option maxRecDepth 100000
set_option linter.unusedSimpArgs false
attribute [local irreducible] hid andK letA onSome onVar onArr arrOnly onInt onBool onFunc onTup idxA ldV ldD addO ofPart appTo fillL slA srcK nilQ retW gif sgd sguard svc sops sdops sagain aopO aLoad aStore aBin aUn aConv aLen aIndexAddr aIndex aIndexAddrS aIndexS aSlice aAppend aBuild aBuildSlice aMakeSlice aField aFieldOf aCallOp deepK deepL frzM putE newK newV growV ACall roundQ thenQ inBlockQ sret cnd szs nilC onMap onRow aLookup aMapUpdate aMakeMap
variable {eb : Nat → Addr} {mm : Nat → Option Obj}

theorem goal_ok (hm : TabM mm) : ∀ (g : Gl) (ho : g.ok) (hs : D.sizes g.cs ≤ 1048576) (H : Heap) (K : A → Heap → Prop) (hK : K (.d (S g.t)) H), ACall Tryz.prog (seatZ eb mm) 9 [.d g.d] H K
  | .mk gk a b n ga gs, ho, hs, H, K, hK => by
    obtain ⟨g, he⟩ : ∃ g, g = Gl.mk gk a b n ga gs := ⟨_, rfl⟩
    have hlen := Gl.len _ ho
    have hgs : Gl.oks gs := ho.2.2.2.2
    have hes : D.sizes (Gl.cs (.mk gk a b n ga gs)) = 1 + (D.sizes a.cs + (D.sizes b.cs + (n.length + 1 + (D.sizes (Tm.ds ga) + 1 + (D.sizes (Gl.ds gs) + 1))))) := by
      simp only [Gl.cs, D.sizes, D.sizes_append, D.size, size_mk']
    have hsz : D.sizes (Gl.ds gs) ≤ 1048576 := by omega
    have has : D.sizes a.cs ≤ 1048576 := by omega
    have hbs : D.sizes b.cs ≤ 1048576 := by omega
    have hgz : D.sizes (Tm.ds ga) ≤ 1048576 := by omega
    have hnz : n.length ≤ 1048576 := by omega
    have hal := a.len ho.2.1
    have hbl := b.len ho.2.2.1
    have hga : ga.length ≤ 1048576 := by have := D.length_le (Tm.ds ga); rw [Tm.ds_map, List.length_map] at this; rw [Tm.ds_map] at hes; omega
    have hgt := Tm.lens ga ho.2.2.2.1
    have hgr := rowT_len (Tm.ts ga)
    have hgo := Tm.oks_mem ho.2.2.2.1
    have hgsub : ∀ t' ∈ ga, D.sizes t'.cs ≤ 1048576 := fun t' ht' => by
      have := D.mem_le (l := Tm.ds ga) (d := t'.d) (by rw [Tm.ds_map]; exact List.mem_map_of_mem ht')
      simp only [Tm.d, D.size] at this
      omega
    have hwl := Gl.lens gs hgs gk
    have hw2 := getD2_len (Gl.ws gk gs)
    have hgl : gs.length ≤ 1048576 := by have := D.length_le (Gl.ds gs); rw [Gl.ds_map, List.length_map] at this; rw [Gl.ds_map] at hsz; omega
    have ih : SubOk eb mm 9 gs := fun g' hg' G K hK => goal_ok hm g' (Gl.oks_mem hgs g' hg') (by
      have := D.mem_le (l := Gl.ds gs) (d := g'.d) (by rw [Gl.ds_map]; exact List.mem_map_of_mem hg')
      simp only [Gl.d, D.size] at this
      omega) G K hK
    rw [← he] at ho hs
    have hoa := (show Gl.ok (.mk gk a b n ga gs) by rw [← he]; exact ho).2.1
    have hob := (show Gl.ok (.mk gk a b n ga gs) by rw [← he]; exact ho).2.2.1
    refine ACall.by mixed fn9 (by simp) ?_
    conv in s9 => cbv
    refine svc_start ?_
    obtain ⟨ak, an, ai, aa⟩ := a
    obtain ⟨bk, bn, bi, ba⟩ := b
    have hd : g.d = .agg [.int .i64 gk, .int .i64 ak, S an, .int .i64 ai, .slice (Tm.ds aa), .int .i64 bk, S bn, .int .i64 bi, .slice (Tm.ds ba), S n, .slice (Tm.ds ga), .slice (Gl.ds gs)] := by rw [he]; rfl
    have hda : Tm.d (.mk ak an ai aa) = .agg [.int .i64 ak, S an, .int .i64 ai, .slice (Tm.ds aa)] := rfl
    have hdb : Tm.d (.mk bk bn bi ba) = .agg [.int .i64 bk, S bn, .int .i64 bi, .slice (Tm.ds ba)] := rfl
    rw [← he, hd]
    unfold Gl.t at hK
    simp -dsimp (maxDischargeDepth := 9) only [go_sem, Nat.reduceBEq, Nat.reduceLT, Nat.reduceAdd, Nat.reduceSub, Nat.reduceMul, Nat.reduceLeDiff, Int.reduceLE, Int.toNat_natCast, Int.natCast_nonneg, List.getElem?_map, List.length_map, Nat.zero_add, eq_self, Bool.not_true, Bool.not_false]
    refine newK_intro (fun b1 hb1 hn1 hm1 => ?_)
    simp -dsimp (maxDischargeDepth := 9) only [go_sem, Nat.reduceBEq, Nat.reduceLT, Nat.reduceAdd, Nat.reduceSub, Nat.reduceMul, Nat.reduceLeDiff, Int.reduceLE, Int.toNat_natCast, Int.natCast_nonneg, List.getElem?_map, List.length_map, Nat.zero_add, eq_self, Bool.not_true, Bool.not_false]
    have hret : ∀ (s : Str), K (.d (S s)) H → retW (seatZ eb mm) (.d (.str ⟨s.toArray⟩)) (upd H b1 (.var [.d (.int .i64 gk), .d (.int .i64 ak), .d (S an), .d (.int .i64 ai), .d (.slice (Tm.ds aa)), .d (.int .i64 bk), .d (S bn), .d (.int .i64 bi), .d (.slice (Tm.ds ba)), .d (S n), .d (.slice (Tm.ds ga)), .d (.slice (Gl.ds gs))])) K :=
      fun s h => retW_drop (G := H) (leH_upd hb1 (.refl H)) (retW_is h)
    refine gif_split (fun h1 => ?_) (fun h1 => ?_)
    · have hk : gk = 1 := of_decide_eq_true h1
      rw [if_pos hk] at hK
      simp -dsimp (maxDischargeDepth := 9) only [go_sem, Nat.reduceBEq, Nat.reduceLT, Nat.reduceAdd, Nat.reduceSub, Nat.reduceMul, Nat.reduceLeDiff, Int.reduceLE, Int.toNat_natCast, Int.natCast_nonneg, List.getElem?_map, List.length_map, Nat.zero_add, eq_self, Bool.not_true, Bool.not_false, h1]
      exact hret _ hK
    have k1 : ¬ gk = 1 := of_decide_eq_false h1
    rw [if_neg k1] at hK
    simp -dsimp (maxDischargeDepth := 9) only [go_sem, Nat.reduceBEq, Nat.reduceLT, Nat.reduceAdd, Nat.reduceSub, Nat.reduceMul, Nat.reduceLeDiff, Int.reduceLE, Int.toNat_natCast, Int.natCast_nonneg, List.getElem?_map, List.length_map, Nat.zero_add, eq_self, Bool.not_true, Bool.not_false, h1]
    refine gif_split (fun h1 => ?_) (fun h1 => ?_)
    · have hk : gk = 2 := of_decide_eq_true h1
      rw [if_pos hk] at hK
      simp -dsimp (maxDischargeDepth := 9) only [go_sem, Nat.reduceBEq, Nat.reduceLT, Nat.reduceAdd, Nat.reduceSub, Nat.reduceMul, Nat.reduceLeDiff, Int.reduceLE, Int.toNat_natCast, Int.natCast_nonneg, List.getElem?_map, List.length_map, Nat.zero_add, eq_self, Bool.not_true, Bool.not_false, h1]
      exact hret _ hK
    have k1 : ¬ gk = 2 := of_decide_eq_false h1
    rw [if_neg k1] at hK
    simp -dsimp (maxDischargeDepth := 9) only [go_sem, Nat.reduceBEq, Nat.reduceLT, Nat.reduceAdd, Nat.reduceSub, Nat.reduceMul, Nat.reduceLeDiff, Int.reduceLE, Int.toNat_natCast, Int.natCast_nonneg, List.getElem?_map, List.length_map, Nat.zero_add, eq_self, Bool.not_true, Bool.not_false, h1]
    refine gif_split (fun h1 => ?_) (fun h1 => ?_)
    · have hk : gk = 3 := of_decide_eq_true h1
      rw [if_pos hk] at hK
      simp -dsimp (maxDischargeDepth := 9) only [go_sem, Nat.reduceBEq, Nat.reduceLT, Nat.reduceAdd, Nat.reduceSub, Nat.reduceMul, Nat.reduceLeDiff, Int.reduceLE, Int.toNat_natCast, Int.natCast_nonneg, List.getElem?_map, List.length_map, Nat.zero_add, eq_self, Bool.not_true, Bool.not_false, h1]
      rw [← hda]
      refine term_ok hm _ hoa has _ _ ?_
      simp -dsimp (maxDischargeDepth := 9) only [go_sem, Nat.reduceBEq, Nat.reduceLT, Nat.reduceAdd, Nat.reduceSub, Nat.reduceMul, Nat.reduceLeDiff, Int.reduceLE, Int.toNat_natCast, Int.natCast_nonneg, List.getElem?_map, List.length_map, Nat.zero_add, eq_self, Bool.not_true, Bool.not_false, hda, hdb]
      refine andK_split (by simp only [List.size_toArray, List.length_cons, List.length_nil, List.length_append]; omega) ?_
      simp -dsimp (maxDischargeDepth := 9) only [go_sem, Nat.reduceBEq, Nat.reduceLT, Nat.reduceAdd, Nat.reduceSub, Nat.reduceMul, Nat.reduceLeDiff, Int.reduceLE, Int.toNat_natCast, Int.natCast_nonneg, List.getElem?_map, List.length_map, Nat.zero_add, eq_self, Bool.not_true, Bool.not_false, app_mk]
      rw [← hdb]
      refine term_ok hm _ hob hbs _ _ ?_
      simp -dsimp (maxDischargeDepth := 9) only [go_sem, Nat.reduceBEq, Nat.reduceLT, Nat.reduceAdd, Nat.reduceSub, Nat.reduceMul, Nat.reduceLeDiff, Int.reduceLE, Int.toNat_natCast, Int.natCast_nonneg, List.getElem?_map, List.length_map, Nat.zero_add, eq_self, Bool.not_true, Bool.not_false, hda, hdb]
      refine andK_split (by simp only [List.size_toArray, List.length_cons, List.length_nil, List.length_append]; omega) ?_
      simp -dsimp (maxDischargeDepth := 9) only [go_sem, Nat.reduceBEq, Nat.reduceLT, Nat.reduceAdd, Nat.reduceSub, Nat.reduceMul, Nat.reduceLeDiff, Int.reduceLE, Int.toNat_natCast, Int.natCast_nonneg, List.getElem?_map, List.length_map, Nat.zero_add, eq_self, Bool.not_true, Bool.not_false, app_mk]
      exact hret _ hK
    have k1 : ¬ gk = 3 := of_decide_eq_false h1
    rw [if_neg k1] at hK
    simp -dsimp (maxDischargeDepth := 9) only [go_sem, Nat.reduceBEq, Nat.reduceLT, Nat.reduceAdd, Nat.reduceSub, Nat.reduceMul, Nat.reduceLeDiff, Int.reduceLE, Int.toNat_natCast, Int.natCast_nonneg, List.getElem?_map, List.length_map, Nat.zero_add, eq_self, Bool.not_true, Bool.not_false, h1]
    refine gif_split (fun h1 => ?_) (fun h1 => ?_)
    · have hk : gk = 4 := of_decide_eq_true h1
      rw [if_pos hk] at hK
      simp -dsimp (maxDischargeDepth := 9) only [go_sem, Nat.reduceBEq, Nat.reduceLT, Nat.reduceAdd, Nat.reduceSub, Nat.reduceMul, Nat.reduceLeDiff, Int.reduceLE, Int.toNat_natCast, Int.natCast_nonneg, List.getElem?_map, List.length_map, Nat.zero_add, eq_self, Bool.not_true, Bool.not_false, h1, Tm.ds_map]
      rw [Tm.ts_map] at hK hgt hgr
      refine args30_ok _ ga hga (by omega) (fun t ht' G K hK => term_ok hm t (hgo t ht') (hgsub t ht') G K hK) _ ?_
      simp -dsimp (maxDischargeDepth := 9) only [go_sem, Nat.reduceBEq, Nat.reduceLT, Nat.reduceAdd, Nat.reduceSub, Nat.reduceMul, Nat.reduceLeDiff, Int.reduceLE, Int.toNat_natCast, Int.natCast_nonneg, List.getElem?_map, List.length_map, Nat.zero_add, eq_self, Bool.not_true, Bool.not_false]
      refine andK_split (by simp only [List.size_toArray, List.length_cons, List.length_nil, List.length_append]; omega) ?_
      simp -dsimp (maxDischargeDepth := 9) only [go_sem, Nat.reduceBEq, Nat.reduceLT, Nat.reduceAdd, Nat.reduceSub, Nat.reduceMul, Nat.reduceLeDiff, Int.reduceLE, Int.toNat_natCast, Int.natCast_nonneg, List.getElem?_map, List.length_map, Nat.zero_add, eq_self, Bool.not_true, Bool.not_false, app_mk]
      exact retW_drop (G := H) (leH_upd hb1 (.refl H)) (retW_is hK)
    have k1 : ¬ gk = 4 := of_decide_eq_false h1
    rw [if_neg k1] at hK
    simp -dsimp (maxDischargeDepth := 9) only [go_sem, Nat.reduceBEq, Nat.reduceLT, Nat.reduceAdd, Nat.reduceSub, Nat.reduceMul, Nat.reduceLeDiff, Int.reduceLE, Int.toNat_natCast, Int.natCast_nonneg, List.getElem?_map, List.length_map, Nat.zero_add, eq_self, Bool.not_true, Bool.not_false, h1]
    refine gif_split (fun h1 => ?_) (fun h1 => ?_)
    · have hk : gk = 5 := of_decide_eq_true h1
      rw [if_pos hk] at hK
      simp -dsimp (maxDischargeDepth := 9) only [go_sem, Nat.reduceBEq, Nat.reduceLT, Nat.reduceAdd, Nat.reduceSub, Nat.reduceMul, Nat.reduceLeDiff, Int.reduceLE, Int.toNat_natCast, Int.natCast_nonneg, List.getElem?_map, List.length_map, Nat.zero_add, eq_self, Bool.not_true, Bool.not_false, h1]
      rw [← hd]
      refine joined_ok [44, 32] (by decide) g ho hs he ih _ _ ?_
      simp -dsimp (maxDischargeDepth := 9) only [go_sem, Nat.reduceBEq, Nat.reduceLT, Nat.reduceAdd, Nat.reduceSub, Nat.reduceMul, Nat.reduceLeDiff, Int.reduceLE, Int.toNat_natCast, Int.natCast_nonneg, List.getElem?_map, List.length_map, Nat.zero_add, eq_self, Bool.not_true, Bool.not_false]
      exact hret _ hK
    have k1 : ¬ gk = 5 := of_decide_eq_false h1
    rw [if_neg k1] at hK
    simp -dsimp (maxDischargeDepth := 9) only [go_sem, Nat.reduceBEq, Nat.reduceLT, Nat.reduceAdd, Nat.reduceSub, Nat.reduceMul, Nat.reduceLeDiff, Int.reduceLE, Int.toNat_natCast, Int.natCast_nonneg, List.getElem?_map, List.length_map, Nat.zero_add, eq_self, Bool.not_true, Bool.not_false, h1]
    refine gif_split (fun h1 => ?_) (fun h1 => ?_)
    · have hk : gk = 6 := of_decide_eq_true h1
      rw [if_pos hk] at hK
      simp -dsimp (maxDischargeDepth := 9) only [go_sem, Nat.reduceBEq, Nat.reduceLT, Nat.reduceAdd, Nat.reduceSub, Nat.reduceMul, Nat.reduceLeDiff, Int.reduceLE, Int.toNat_natCast, Int.natCast_nonneg, List.getElem?_map, List.length_map, Nat.zero_add, eq_self, Bool.not_true, Bool.not_false, h1]
      rw [← hd]
      refine joined_ok [32, 59, 32] (by decide) g ho hs he ih _ _ ?_
      simp -dsimp (maxDischargeDepth := 9) only [go_sem, Nat.reduceBEq, Nat.reduceLT, Nat.reduceAdd, Nat.reduceSub, Nat.reduceMul, Nat.reduceLeDiff, Int.reduceLE, Int.toNat_natCast, Int.natCast_nonneg, List.getElem?_map, List.length_map, Nat.zero_add, eq_self, Bool.not_true, Bool.not_false]
      exact hret _ hK
    have k1 : ¬ gk = 6 := of_decide_eq_false h1
    rw [if_neg k1] at hK
    simp -dsimp (maxDischargeDepth := 9) only [go_sem, Nat.reduceBEq, Nat.reduceLT, Nat.reduceAdd, Nat.reduceSub, Nat.reduceMul, Nat.reduceLeDiff, Int.reduceLE, Int.toNat_natCast, Int.natCast_nonneg, List.getElem?_map, List.length_map, Nat.zero_add, eq_self, Bool.not_true, Bool.not_false, h1]
    refine gif_split (fun h1 => ?_) (fun h1 => ?_)
    · have hk : gk = 7 := of_decide_eq_true h1
      rw [if_pos hk] at hK
      simp -dsimp (maxDischargeDepth := 9) only [go_sem, Nat.reduceBEq, Nat.reduceLT, Nat.reduceAdd, Nat.reduceSub, Nat.reduceMul, Nat.reduceLeDiff, Int.reduceLE, Int.toNat_natCast, Int.natCast_nonneg, List.getElem?_map, List.length_map, Nat.zero_add, eq_self, Bool.not_true, Bool.not_false, h1]
      rw [← hd]
      refine part_ok 0 (by omega) g ho hs he ih _ _ ?_
      simp -dsimp (maxDischargeDepth := 9) only [go_sem, Nat.reduceBEq, Nat.reduceLT, Nat.reduceAdd, Nat.reduceSub, Nat.reduceMul, Nat.reduceLeDiff, Int.reduceLE, Int.toNat_natCast, Int.natCast_nonneg, List.getElem?_map, List.length_map, Nat.zero_add, eq_self, Bool.not_true, Bool.not_false]
      refine andK_split (by simp only [List.size_toArray, List.length_cons, List.length_nil, List.length_append]; omega) ?_
      simp -dsimp (maxDischargeDepth := 9) only [go_sem, Nat.reduceBEq, Nat.reduceLT, Nat.reduceAdd, Nat.reduceSub, Nat.reduceMul, Nat.reduceLeDiff, Int.reduceLE, Int.toNat_natCast, Int.natCast_nonneg, List.getElem?_map, List.length_map, Nat.zero_add, eq_self, Bool.not_true, Bool.not_false, app_mk]
      exact hret _ hK
    have k1 : ¬ gk = 7 := of_decide_eq_false h1
    rw [if_neg k1] at hK
    simp -dsimp (maxDischargeDepth := 9) only [go_sem, Nat.reduceBEq, Nat.reduceLT, Nat.reduceAdd, Nat.reduceSub, Nat.reduceMul, Nat.reduceLeDiff, Int.reduceLE, Int.toNat_natCast, Int.natCast_nonneg, List.getElem?_map, List.length_map, Nat.zero_add, eq_self, Bool.not_true, Bool.not_false, h1]
    refine gif_split (fun h1 => ?_) (fun h1 => ?_)
    · have hk : gk = 8 := of_decide_eq_true h1
      rw [if_pos hk] at hK
      simp -dsimp (maxDischargeDepth := 9) only [go_sem, Nat.reduceBEq, Nat.reduceLT, Nat.reduceAdd, Nat.reduceSub, Nat.reduceMul, Nat.reduceLeDiff, Int.reduceLE, Int.toNat_natCast, Int.natCast_nonneg, List.getElem?_map, List.length_map, Nat.zero_add, eq_self, Bool.not_true, Bool.not_false, h1]
      rw [← hda]
      refine term_ok hm _ hoa has _ _ ?_
      simp -dsimp (maxDischargeDepth := 9) only [go_sem, Nat.reduceBEq, Nat.reduceLT, Nat.reduceAdd, Nat.reduceSub, Nat.reduceMul, Nat.reduceLeDiff, Int.reduceLE, Int.toNat_natCast, Int.natCast_nonneg, List.getElem?_map, List.length_map, Nat.zero_add, eq_self, Bool.not_true, Bool.not_false]
      refine andK_split (by simp only [List.size_toArray, List.length_cons, List.length_nil, List.length_append]; omega) ?_
      simp -dsimp (maxDischargeDepth := 9) only [go_sem, Nat.reduceBEq, Nat.reduceLT, Nat.reduceAdd, Nat.reduceSub, Nat.reduceMul, Nat.reduceLeDiff, Int.reduceLE, Int.toNat_natCast, Int.natCast_nonneg, List.getElem?_map, List.length_map, Nat.zero_add, eq_self, Bool.not_true, Bool.not_false, app_mk]
      exact hret _ hK
    have k1 : ¬ gk = 8 := of_decide_eq_false h1
    rw [if_neg k1] at hK
    simp -dsimp (maxDischargeDepth := 9) only [go_sem, Nat.reduceBEq, Nat.reduceLT, Nat.reduceAdd, Nat.reduceSub, Nat.reduceMul, Nat.reduceLeDiff, Int.reduceLE, Int.toNat_natCast, Int.natCast_nonneg, List.getElem?_map, List.length_map, Nat.zero_add, eq_self, Bool.not_true, Bool.not_false, h1]
    refine gif_split (fun h1 => ?_) (fun h1 => ?_)
    · have hk : gk = 9 := of_decide_eq_true h1
      rw [if_pos hk] at hK
      simp -dsimp (maxDischargeDepth := 9) only [go_sem, Nat.reduceBEq, Nat.reduceLT, Nat.reduceAdd, Nat.reduceSub, Nat.reduceMul, Nat.reduceLeDiff, Int.reduceLE, Int.toNat_natCast, Int.natCast_nonneg, List.getElem?_map, List.length_map, Nat.zero_add, eq_self, Bool.not_true, Bool.not_false, h1]
      rw [← hd]
      refine part_ok 0 (by omega) g ho hs he ih _ _ ?_
      simp -dsimp (maxDischargeDepth := 9) only [go_sem, Nat.reduceBEq, Nat.reduceLT, Nat.reduceAdd, Nat.reduceSub, Nat.reduceMul, Nat.reduceLeDiff, Int.reduceLE, Int.toNat_natCast, Int.natCast_nonneg, List.getElem?_map, List.length_map, Nat.zero_add, eq_self, Bool.not_true, Bool.not_false]
      refine ⟨by rw [hd], ?_⟩
      refine andK_split (by simp only [List.size_toArray, List.length_cons, List.length_nil, List.length_append]; omega) ?_
      simp -dsimp (maxDischargeDepth := 9) only [go_sem, Nat.reduceBEq, Nat.reduceLT, Nat.reduceAdd, Nat.reduceSub, Nat.reduceMul, Nat.reduceLeDiff, Int.reduceLE, Int.toNat_natCast, Int.natCast_nonneg, List.getElem?_map, List.length_map, Nat.zero_add, eq_self, Bool.not_true, Bool.not_false, app_mk]
      refine andK_split (by simp only [List.size_toArray, List.length_cons, List.length_nil, List.length_append]; omega) ?_
      simp -dsimp (maxDischargeDepth := 9) only [go_sem, Nat.reduceBEq, Nat.reduceLT, Nat.reduceAdd, Nat.reduceSub, Nat.reduceMul, Nat.reduceLeDiff, Int.reduceLE, Int.toNat_natCast, Int.natCast_nonneg, List.getElem?_map, List.length_map, Nat.zero_add, eq_self, Bool.not_true, Bool.not_false, app_mk]
      refine andK_split (by simp only [List.size_toArray, List.length_cons, List.length_nil, List.length_append]; omega) ?_
      simp -dsimp (maxDischargeDepth := 9) only [go_sem, Nat.reduceBEq, Nat.reduceLT, Nat.reduceAdd, Nat.reduceSub, Nat.reduceMul, Nat.reduceLeDiff, Int.reduceLE, Int.toNat_natCast, Int.natCast_nonneg, List.getElem?_map, List.length_map, Nat.zero_add, eq_self, Bool.not_true, Bool.not_false, app_mk]
      refine andK_split (by simp only [List.size_toArray, List.length_cons, List.length_nil, List.length_append]; omega) ?_
      simp -dsimp (maxDischargeDepth := 9) only [go_sem, Nat.reduceBEq, Nat.reduceLT, Nat.reduceAdd, Nat.reduceSub, Nat.reduceMul, Nat.reduceLeDiff, Int.reduceLE, Int.toNat_natCast, Int.natCast_nonneg, List.getElem?_map, List.length_map, Nat.zero_add, eq_self, Bool.not_true, Bool.not_false, app_mk]
      refine part_ok 1 (by omega) g ho hs he ih _ _ ?_
      simp -dsimp (maxDischargeDepth := 9) only [go_sem, Nat.reduceBEq, Nat.reduceLT, Nat.reduceAdd, Nat.reduceSub, Nat.reduceMul, Nat.reduceLeDiff, Int.reduceLE, Int.toNat_natCast, Int.natCast_nonneg, List.getElem?_map, List.length_map, Nat.zero_add, eq_self, Bool.not_true, Bool.not_false]
      refine andK_split (by simp only [List.size_toArray, List.length_cons, List.length_nil, List.length_append]; omega) ?_
      simp -dsimp (maxDischargeDepth := 9) only [go_sem, Nat.reduceBEq, Nat.reduceLT, Nat.reduceAdd, Nat.reduceSub, Nat.reduceMul, Nat.reduceLeDiff, Int.reduceLE, Int.toNat_natCast, Int.natCast_nonneg, List.getElem?_map, List.length_map, Nat.zero_add, eq_self, Bool.not_true, Bool.not_false, app_mk]
      exact hret _ hK
    have k1 : ¬ gk = 9 := of_decide_eq_false h1
    rw [if_neg k1] at hK
    simp -dsimp (maxDischargeDepth := 9) only [go_sem, Nat.reduceBEq, Nat.reduceLT, Nat.reduceAdd, Nat.reduceSub, Nat.reduceMul, Nat.reduceLeDiff, Int.reduceLE, Int.toNat_natCast, Int.natCast_nonneg, List.getElem?_map, List.length_map, Nat.zero_add, eq_self, Bool.not_true, Bool.not_false, h1]
    exact hret _ hK
termination_by g => SizeOf.sizeOf g
decreasing_by
  all_goals (
    have := List.sizeOf_lt_of_mem hg'
    simp
    omega)
end Go.Aug

/- The forms of items. -/
namespace Go.Aug
open Go.Proofs
set_option maxRecDepth 100000
set_option linter.unusedSimpArgs false
attribute [local irreducible] hid andK letA onSome onVar onArr arrOnly onInt onBool onFunc onTup idxA ldV ldD addO ofPart appTo fillL slA srcK nilQ retW gif sgd sguard svc sops sdops sagain aopO aLoad aStore aBin aUn aConv aLen aIndexAddr aIndex aIndexAddrS aIndexS aSlice aAppend aBuild aBuildSlice aMakeSlice aField aFieldOf aCallOp deepK deepL frzM putE newK newV growV ACall roundQ thenQ inBlockQ sret cnd szs nilC onMap onRow aLookup aMapUpdate aMakeMap
variable {eb : Nat → Addr} {mm : Nat → Option Obj}

theorem ctors_ok (l : List Ct) (hs : D.sizes (l.map Ct.d) ≤ 1048576) (H : Heap) (K : A → Heap → Prop) (hK : K (.d (S (ctorsT l))) H) : ACall Tryz.prog (seatZ eb mm) 25 [.d (.slice (l.map Ct.d))] H K := by
  have hl : l.length ≤ 1048576 := by have := D.length_le (l.map Ct.d); rw [List.length_map] at this; omega
  have ht := Ct.lens l
  refine ACall.by mixed fn25 (by simp) ?_
  conv in s25 => cbv
  refine svc_start ?_
  simp -dsimp (maxDischargeDepth := 9) only [go_sem, Nat.reduceBEq, Nat.reduceLT, Nat.reduceAdd, Nat.reduceSub, Nat.reduceMul, Nat.reduceLeDiff, Int.reduceLE, Int.toNat_natCast, Int.natCast_nonneg, List.getElem?_map, List.length_map, Nat.zero_add, eq_self, Bool.not_true, Bool.not_false]
  refine andK_split (by omega) ?_
  simp -dsimp (maxDischargeDepth := 9) only [go_sem, Nat.reduceBEq, Nat.reduceLT, Nat.reduceAdd, Nat.reduceSub, Nat.reduceMul, Nat.reduceLeDiff, Int.reduceLE, Int.toNat_natCast, Int.natCast_nonneg, List.getElem?_map, List.length_map, Nat.zero_add, eq_self, Bool.not_true, Bool.not_false]
  refine newV_intro (fun b v hb hn hm hv => ?_)
  simp -dsimp (maxDischargeDepth := 9) only [go_sem, Nat.reduceBEq, Nat.reduceLT, Nat.reduceAdd, Nat.reduceSub, Nat.reduceMul, Nat.reduceLeDiff, Int.reduceLE, Int.toNat_natCast, Int.natCast_nonneg, List.getElem?_map, List.length_map, Nat.zero_add, eq_self, Bool.not_true, Bool.not_false, hn, hm]
  refine svc_loop (X := Nat) (fun k => [(3, .own b v), (9, .d (.slice (l.map Ct.d))), (10, .d (.int .i64 l.length)), (11, .d (.int .i64 k))])
    (fun k G => k ≤ l.length ∧ LeH (upd H b (.arr 9 1 v (wsK Ct.t l k))) G) (fun k => l.length - k) 0 _ ⟨by omega, .refl _⟩ (by simp -dsimp (maxDischargeDepth := 9) only [go_sem, Nat.reduceBEq, Nat.reduceLT, Nat.reduceAdd, Nat.reduceSub, Nat.reduceMul, Nat.reduceLeDiff, Int.reduceLE, Int.toNat_natCast, Int.natCast_nonneg, List.getElem?_map, List.length_map, Nat.zero_add, eq_self, Bool.not_true, Bool.not_false]; simp) (by rw [wsK_zero]; exact .refl _) ?_
  rintro k G ⟨hk, gle⟩
  have gb : G b = some (.arr 9 1 v (wsK Ct.t l k)) := gle b _ (upd_same ..)
  simp -dsimp (maxDischargeDepth := 9) only [go_sem, Nat.reduceBEq, Nat.reduceLT, Nat.reduceAdd, Nat.reduceSub, Nat.reduceMul, Nat.reduceLeDiff, Int.reduceLE, Int.toNat_natCast, Int.natCast_nonneg, List.getElem?_map, List.length_map, Nat.zero_add, eq_self, Bool.not_true, Bool.not_false]
  refine gif_split (fun h2 => ?_) (fun h2 => ?_)
  · have hkl : k < l.length := by have := of_decide_eq_true h2; omega
    obtain ⟨x, hx⟩ : ∃ x, l[k]? = some x := ⟨l[k], List.getElem?_eq_getElem hkl⟩
    have hw : IntKind.i64.wrap ((k : Int) + 1) = ((k + 1 : Nat) : Int) := by rw [wrap_in (by omega) (by omega)]; omega
    have hmx : x ∈ l := List.mem_of_getElem? hx
    have hxs := D.mem_le (l := l.map Ct.d) (d := x.d) (List.mem_map_of_mem hmx)
    obtain ⟨xn, xa⟩ := x
    simp only [Ct.d, Ct.cs, D.size, D.sizes, size_mk'] at hxs
    have hal : xa.length ≤ 1048576 := by have := D.length_le (Ty.ds xa); rw [Ty.ds_map, List.length_map] at this; rw [Ty.ds_map] at hxs; omega
    have hat := Ty.lens xa
    have har := rowT_len (Ty.ts xa)
    have hasub : ∀ t' ∈ xa, D.sizes t'.cs ≤ 1048576 := fun t' ht' => by
      have := D.mem_le (l := Ty.ds xa) (d := t'.d) (by rw [Ty.ds_map]; exact List.mem_map_of_mem ht')
      simp only [Ty.d, D.size] at this
      omega
    rw [Ty.ts_map] at hat har
    simp -dsimp (maxDischargeDepth := 9) only [go_sem, Nat.reduceBEq, Nat.reduceLT, Nat.reduceAdd, Nat.reduceSub, Nat.reduceMul, Nat.reduceLeDiff, Int.reduceLE, Int.toNat_natCast, Int.natCast_nonneg, List.getElem?_map, List.length_map, Nat.zero_add, eq_self, Bool.not_true, Bool.not_false, h2, hx]
    refine andK_split rfl ?_
    simp -dsimp (maxDischargeDepth := 9) only [go_sem, Nat.reduceBEq, Nat.reduceLT, Nat.reduceAdd, Nat.reduceSub, Nat.reduceMul, Nat.reduceLeDiff, Int.reduceLE, Int.toNat_natCast, Int.natCast_nonneg, List.getElem?_map, List.length_map, Nat.zero_add, eq_self, Bool.not_true, Bool.not_false, Ct.d, Ct.cs, D.cells]
    refine newK_intro (fun b7 hb7 hn7 hm7 => ?_)
    have e7 : eqn b b7 = false := hn7 b (by rw [gb]; rfl)
    simp -dsimp (maxDischargeDepth := 9) only [go_sem, Nat.reduceBEq, Nat.reduceLT, Nat.reduceAdd, Nat.reduceSub, Nat.reduceMul, Nat.reduceLeDiff, Int.reduceLE, Int.toNat_natCast, Int.natCast_nonneg, List.getElem?_map, List.length_map, Nat.zero_add, eq_self, Bool.not_true, Bool.not_false, Ty.ds_map]
    refine args26_ok _ xa hal (by omega) (fun t ht' G K hK => type_ok t (hasub t ht') G K hK) _ ?_
    simp -dsimp (maxDischargeDepth := 9) only [go_sem, Nat.reduceBEq, Nat.reduceLT, Nat.reduceAdd, Nat.reduceSub, Nat.reduceMul, Nat.reduceLeDiff, Int.reduceLE, Int.toNat_natCast, Int.natCast_nonneg, List.getElem?_map, List.length_map, Nat.zero_add, eq_self, Bool.not_true, Bool.not_false, Ty.ds_map]
    refine andK_split (by simp only [List.size_toArray, List.length_cons, List.length_nil, List.length_append]; omega) ?_
    simp -dsimp (maxDischargeDepth := 9) only [go_sem, Nat.reduceBEq, Nat.reduceLT, Nat.reduceAdd, Nat.reduceSub, Nat.reduceMul, Nat.reduceLeDiff, Int.reduceLE, Int.toNat_natCast, Int.natCast_nonneg, List.getElem?_map, List.length_map, Nat.zero_add, eq_self, Bool.not_true, Bool.not_false, app_mk, e7, gb, wsK_len Ct.t l k hk]
    refine andK_split (by omega) ?_
    simp -dsimp (maxDischargeDepth := 9) only [go_sem, Nat.reduceBEq, Nat.reduceLT, Nat.reduceAdd, Nat.reduceSub, Nat.reduceMul, Nat.reduceLeDiff, Int.reduceLE, Int.toNat_natCast, Int.natCast_nonneg, List.getElem?_map, List.length_map, Nat.zero_add, eq_self, Bool.not_true, Bool.not_false, e7, gb, wsK_at Ct.t l k hkl, D.cells, hw]
    refine roundQ_next (k + 1) (upd H b (.arr 9 1 v (wsK Ct.t l (k + 1)))) ⟨by omega, .refl _⟩ (by omega) (by simp -dsimp (maxDischargeDepth := 9) only [go_sem, Nat.reduceBEq, Nat.reduceLT, Nat.reduceAdd, Nat.reduceSub, Nat.reduceMul, Nat.reduceLeDiff, Int.reduceLE, Int.toNat_natCast, Int.natCast_nonneg, List.getElem?_map, List.length_map, Nat.zero_add, eq_self, Bool.not_true, Bool.not_false]) ?_
    rw [← wsK_set Ct.t l k _ hx, Ct.t, Ty.ts_map]
    exact leH_set (gle.trans (by repeat first | exact .refl _ | refine leH_upd hb7 ?_))
  · have hkl : k = l.length := by have := of_decide_eq_false h2; omega
    subst hkl
    simp -dsimp (maxDischargeDepth := 9) only [go_sem, Nat.reduceBEq, Nat.reduceLT, Nat.reduceAdd, Nat.reduceSub, Nat.reduceMul, Nat.reduceLeDiff, Int.reduceLE, Int.toNat_natCast, Int.natCast_nonneg, List.getElem?_map, List.length_map, Nat.zero_add, eq_self, Bool.not_true, Bool.not_false, h2]
    rw [wsK_full] at gb
    have gl : LeH H G := fun x o hx => gle x o (leH_upd hb (.refl H) x o hx)
    have hj := join_len (l.map Ct.t) [32, 124, 32] (by decide)
    refine ACall.frz [true, false] ?_
    simp -dsimp (maxDischargeDepth := 9) only [go_sem, Nat.reduceBEq, Nat.reduceLT, Nat.reduceAdd, Nat.reduceSub, Nat.reduceMul, Nat.reduceLeDiff, Int.reduceLE, Int.toNat_natCast, Int.natCast_nonneg, List.getElem?_map, List.length_map, Nat.zero_add, eq_self, Bool.not_true, Bool.not_false, gb]
    rw [show (l.map Ct.t).map S = ((l.map Ct.t).map fun s => (⟨s.toArray⟩ : ByteArray)).map .str by simp]
    have hmap : ((l.map Ct.t).map fun s => (⟨s.toArray⟩ : ByteArray)).map (fun x => x.data.toList) = l.map Ct.t := by simp
    refine join_ok _ _ (by simp only [List.length_map]; omega) (by rw [hmap]; show (Lib.join (l.map Ct.t) [32, 124, 32]).length ≤ _; omega) ?_
    rw [hmap]
    simp -dsimp (maxDischargeDepth := 9) only [go_sem, Nat.reduceBEq, Nat.reduceLT, Nat.reduceAdd, Nat.reduceSub, Nat.reduceMul, Nat.reduceLeDiff, Int.reduceLE, Int.toNat_natCast, Int.natCast_nonneg, List.getElem?_map, List.length_map, Nat.zero_add, eq_self, Bool.not_true, Bool.not_false]
    exact retW_drop (G := H) (leH_upd hb gl) (retW_is hK)

theorem item_ok (hm : TabM mm) (i : It) (ho : i.ok) (hs : D.sizes i.cs ≤ 1048576) (H : Heap) (K : A → Heap → Prop) (hK : K (.d (S i.t)) H) : ACall Tryz.prog (seatZ eb mm) 7 [.d i.d] H K := by
  obtain ⟨ik, iname, ivars, ictors, itypes, iins, idet, iargs, g⟩ := i
  obtain ⟨gk, ak, an, ai, aa, bk, bn, bi, ba, n, ga, gs, he⟩ := Gl.open g
  have hd : g.d = .agg [.int .i64 gk, .int .i64 ak, S an, .int .i64 ai, .slice (Tm.ds aa), .int .i64 bk, S bn, .int .i64 bi, .slice (Tm.ds ba), S n, .slice (Tm.ds ga), .slice (Gl.ds gs)] := by rw [he]; rfl
  have hid' : It.d ⟨ik, iname, ivars, ictors, itypes, iins, idet, iargs, g⟩ = .agg [.int .i64 ik, S iname, .slice (ivars.map S), .slice (ictors.map Ct.d), .slice (Ty.ds itypes), .slice (iins.map .bool), .int .i64 idet, .slice (Tm.ds iargs), .int .i64 gk, .int .i64 ak, S an, .int .i64 ai, .slice (Tm.ds aa), .int .i64 bk, S bn, .int .i64 bi, .slice (Tm.ds ba), S n, .slice (Tm.ds ga), .slice (Gl.ds gs)] := by rw [he]; rfl
  have hgk : g.kind = gk := by rw [he]; rfl
  have hsz : D.sizes (It.cs ⟨ik, iname, ivars, ictors, itypes, iins, idet, iargs, g⟩) = 1 + (iname.length + 1 + (D.sizes (ivars.map S) + 1 + (D.sizes (ictors.map Ct.d) + 1 + (D.sizes (Ty.ds itypes) + 1 + (D.sizes (iins.map .bool) + 1 + (1 + (D.sizes (Tm.ds iargs) + 1 + D.sizes g.cs))))))) := by
    simp only [It.cs, D.sizes, D.size, size_mk']
  rw [hsz] at hs
  have hvl : ivars.length ≤ 1048576 := by have := D.length_le (ivars.map S); rw [List.length_map] at this; omega
  have htl : itypes.length ≤ 1048576 := by have := D.length_le (Ty.ds itypes); rw [Ty.ds_map, List.length_map] at this; rw [Ty.ds_map] at hs; omega
  have hal : iargs.length ≤ 1048576 := by have := D.length_le (Tm.ds iargs); rw [Tm.ds_map, List.length_map] at this; rw [Tm.ds_map] at hs; omega
  have hil : iins.length ≤ 1048576 := by have := D.length_le (iins.map D.bool); rw [List.length_map] at this; omega
  have hvt := strs_tot ivars
  have hvr := rowT_len ivars
  have hit := ways_tot iins
  have hir := rowT_len (iins.map wayT)
  have htt := Ty.lens itypes
  have htr := rowT_len (Ty.ts itypes)
  have hat := Tm.lens iargs ho.1
  have har := rowT_len (Tm.ts iargs)
  have hct := Ct.lens ictors
  have hcj := join_len (ictors.map Ct.t) [32, 124, 32] (by decide)
  have hdl := detT_len idet
  have hgl := Gl.len g ho.2
  have htsub : ∀ t' ∈ itypes, D.sizes t'.cs ≤ 1048576 := fun t' ht' => by
    have := D.mem_le (l := Ty.ds itypes) (d := t'.d) (by rw [Ty.ds_map]; exact List.mem_map_of_mem ht')
    simp only [Ty.d, D.size] at this
    omega
  have hasub : ∀ t' ∈ iargs, D.sizes t'.cs ≤ 1048576 := fun t' ht' => by
    have := D.mem_le (l := Tm.ds iargs) (d := t'.d) (by rw [Tm.ds_map]; exact List.mem_map_of_mem ht')
    simp only [Tm.d, D.size] at this
    omega
  have hao := Tm.oks_mem ho.1
  have hgo := ho.2
  refine ACall.by mixed fn7 (by simp) ?_
  conv in s7 => cbv
  refine svc_start ?_
  rw [hid']
  simp -dsimp (maxDischargeDepth := 9) only [go_sem, Nat.reduceBEq, Nat.reduceLT, Nat.reduceAdd, Nat.reduceSub, Nat.reduceMul, Nat.reduceLeDiff, Int.reduceLE, Int.toNat_natCast, Int.natCast_nonneg, List.getElem?_map, List.length_map, Nat.zero_add, eq_self, Bool.not_true, Bool.not_false]
  refine newK_intro (fun b1 hb1 hn1 hm1 => ?_)
  have hret : ∀ (s : Str), s = It.t ⟨ik, iname, ivars, ictors, itypes, iins, idet, iargs, g⟩ → retW (seatZ eb mm) (.d (.str ⟨s.toArray⟩)) (upd H b1 (.var [.d (.int .i64 ik), .d (S iname), .d (.slice (ivars.map S)), .d (.slice (ictors.map Ct.d)), .d (.slice (Ty.ds itypes)), .d (.slice (iins.map .bool)), .d (.int .i64 idet), .d (.slice (Tm.ds iargs)), .d (.int .i64 gk), .d (.int .i64 ak), .d (S an), .d (.int .i64 ai), .d (.slice (Tm.ds aa)), .d (.int .i64 bk), .d (S bn), .d (.int .i64 bi), .d (.slice (Tm.ds ba)), .d (S n), .d (.slice (Tm.ds ga)), .d (.slice (Gl.ds gs))])) K :=
    fun s h => retW_drop (G := H) (leH_upd hb1 (.refl H)) (retW_is (by rw [h]; exact hK))
  simp -dsimp (maxDischargeDepth := 9) only [go_sem, Nat.reduceBEq, Nat.reduceLT, Nat.reduceAdd, Nat.reduceSub, Nat.reduceMul, Nat.reduceLeDiff, Int.reduceLE, Int.toNat_natCast, Int.natCast_nonneg, List.getElem?_map, List.length_map, Nat.zero_add, eq_self, Bool.not_true, Bool.not_false]
  refine gif_split (fun h => ?_) (fun h => ?_)
  · have hk : ik = 1 := of_decide_eq_true h
    simp -dsimp (maxDischargeDepth := 9) only [go_sem, Nat.reduceBEq, Nat.reduceLT, Nat.reduceAdd, Nat.reduceSub, Nat.reduceMul, Nat.reduceLeDiff, Int.reduceLE, Int.toNat_natCast, Int.natCast_nonneg, List.getElem?_map, List.length_map, Nat.zero_add, eq_self, Bool.not_true, Bool.not_false, h]
    refine andK_split (by simp only [List.size_toArray, List.length_cons, List.length_nil, List.length_append]; omega) ?_
    simp -dsimp (maxDischargeDepth := 9) only [go_sem, Nat.reduceBEq, Nat.reduceLT, Nat.reduceAdd, Nat.reduceSub, Nat.reduceMul, Nat.reduceLeDiff, Int.reduceLE, Int.toNat_natCast, Int.natCast_nonneg, List.getElem?_map, List.length_map, Nat.zero_add, eq_self, Bool.not_true, Bool.not_false, app_mk]
    refine args23_ok _ ivars hvl (by rw [List.map_id]; omega) (fun t ht' G K hK => id_ok t G K hK) _ ?_
    simp -dsimp (maxDischargeDepth := 9) only [go_sem, Nat.reduceBEq, Nat.reduceLT, Nat.reduceAdd, Nat.reduceSub, Nat.reduceMul, Nat.reduceLeDiff, Int.reduceLE, Int.toNat_natCast, Int.natCast_nonneg, List.getElem?_map, List.length_map, Nat.zero_add, eq_self, Bool.not_true, Bool.not_false, List.map_id]
    refine andK_split (by simp only [List.size_toArray, List.length_cons, List.length_nil, List.length_append]; omega) ?_
    simp -dsimp (maxDischargeDepth := 9) only [go_sem, Nat.reduceBEq, Nat.reduceLT, Nat.reduceAdd, Nat.reduceSub, Nat.reduceMul, Nat.reduceLeDiff, Int.reduceLE, Int.toNat_natCast, Int.natCast_nonneg, List.getElem?_map, List.length_map, Nat.zero_add, eq_self, Bool.not_true, Bool.not_false, app_mk]
    refine andK_split (by simp only [List.size_toArray, List.length_cons, List.length_nil, List.length_append]; omega) ?_
    simp -dsimp (maxDischargeDepth := 9) only [go_sem, Nat.reduceBEq, Nat.reduceLT, Nat.reduceAdd, Nat.reduceSub, Nat.reduceMul, Nat.reduceLeDiff, Int.reduceLE, Int.toNat_natCast, Int.natCast_nonneg, List.getElem?_map, List.length_map, Nat.zero_add, eq_self, Bool.not_true, Bool.not_false, app_mk]
    refine ctors_ok ictors (by omega) _ _ ?_
    simp -dsimp (maxDischargeDepth := 9) only [go_sem, Nat.reduceBEq, Nat.reduceLT, Nat.reduceAdd, Nat.reduceSub, Nat.reduceMul, Nat.reduceLeDiff, Int.reduceLE, Int.toNat_natCast, Int.natCast_nonneg, List.getElem?_map, List.length_map, Nat.zero_add, eq_self, Bool.not_true, Bool.not_false, ctorsT]
    refine andK_split (by simp only [List.size_toArray, List.length_cons, List.length_nil, List.length_append]; omega) ?_
    simp -dsimp (maxDischargeDepth := 9) only [go_sem, Nat.reduceBEq, Nat.reduceLT, Nat.reduceAdd, Nat.reduceSub, Nat.reduceMul, Nat.reduceLeDiff, Int.reduceLE, Int.toNat_natCast, Int.natCast_nonneg, List.getElem?_map, List.length_map, Nat.zero_add, eq_self, Bool.not_true, Bool.not_false, app_mk]
    refine andK_split (by simp only [List.size_toArray, List.length_cons, List.length_nil, List.length_append]; omega) ?_
    simp -dsimp (maxDischargeDepth := 9) only [go_sem, Nat.reduceBEq, Nat.reduceLT, Nat.reduceAdd, Nat.reduceSub, Nat.reduceMul, Nat.reduceLeDiff, Int.reduceLE, Int.toNat_natCast, Int.natCast_nonneg, List.getElem?_map, List.length_map, Nat.zero_add, eq_self, Bool.not_true, Bool.not_false, app_mk]
    refine hret _ ?_
    simp only [It.t, It.t0, hk, if_true, ctorsT, List.cons_append, List.nil_append, List.append_assoc]
  have k1 : ¬ ik = 1 := of_decide_eq_false h
  simp -dsimp (maxDischargeDepth := 9) only [go_sem, Nat.reduceBEq, Nat.reduceLT, Nat.reduceAdd, Nat.reduceSub, Nat.reduceMul, Nat.reduceLeDiff, Int.reduceLE, Int.toNat_natCast, Int.natCast_nonneg, List.getElem?_map, List.length_map, Nat.zero_add, eq_self, Bool.not_true, Bool.not_false, h]
  refine gif_split (fun h => ?_) (fun h => ?_)
  · have hk : ik = 2 := of_decide_eq_true h
    simp -dsimp (maxDischargeDepth := 9) only [go_sem, Nat.reduceBEq, Nat.reduceLT, Nat.reduceAdd, Nat.reduceSub, Nat.reduceMul, Nat.reduceLeDiff, Int.reduceLE, Int.toNat_natCast, Int.natCast_nonneg, List.getElem?_map, List.length_map, Nat.zero_add, eq_self, Bool.not_true, Bool.not_false, h]
    refine andK_split (by simp only [List.size_toArray, List.length_cons, List.length_nil, List.length_append]; omega) ?_
    simp -dsimp (maxDischargeDepth := 9) only [go_sem, Nat.reduceBEq, Nat.reduceLT, Nat.reduceAdd, Nat.reduceSub, Nat.reduceMul, Nat.reduceLeDiff, Int.reduceLE, Int.toNat_natCast, Int.natCast_nonneg, List.getElem?_map, List.length_map, Nat.zero_add, eq_self, Bool.not_true, Bool.not_false, app_mk]
    refine args26_ds _ itypes htl (by omega) (fun t ht' G K hK => type_ok t (htsub t ht') G K hK) _ ?_
    simp -dsimp (maxDischargeDepth := 9) only [go_sem, Nat.reduceBEq, Nat.reduceLT, Nat.reduceAdd, Nat.reduceSub, Nat.reduceMul, Nat.reduceLeDiff, Int.reduceLE, Int.toNat_natCast, Int.natCast_nonneg, List.getElem?_map, List.length_map, Nat.zero_add, eq_self, Bool.not_true, Bool.not_false]
    refine andK_split (by simp only [List.size_toArray, List.length_cons, List.length_nil, List.length_append]; omega) ?_
    simp -dsimp (maxDischargeDepth := 9) only [go_sem, Nat.reduceBEq, Nat.reduceLT, Nat.reduceAdd, Nat.reduceSub, Nat.reduceMul, Nat.reduceLeDiff, Int.reduceLE, Int.toNat_natCast, Int.natCast_nonneg, List.getElem?_map, List.length_map, Nat.zero_add, eq_self, Bool.not_true, Bool.not_false, app_mk]
    refine andK_split (by simp only [List.size_toArray, List.length_cons, List.length_nil, List.length_append]; omega) ?_
    simp -dsimp (maxDischargeDepth := 9) only [go_sem, Nat.reduceBEq, Nat.reduceLT, Nat.reduceAdd, Nat.reduceSub, Nat.reduceMul, Nat.reduceLeDiff, Int.reduceLE, Int.toNat_natCast, Int.natCast_nonneg, List.getElem?_map, List.length_map, Nat.zero_add, eq_self, Bool.not_true, Bool.not_false, app_mk]
    refine hret _ ?_
    simp only [It.t, It.t0, hk, if_neg (show ¬ (2 : Int) = 1 by decide), if_true, List.cons_append, List.nil_append, List.append_assoc]
  have k2 : ¬ ik = 2 := of_decide_eq_false h
  simp -dsimp (maxDischargeDepth := 9) only [go_sem, Nat.reduceBEq, Nat.reduceLT, Nat.reduceAdd, Nat.reduceSub, Nat.reduceMul, Nat.reduceLeDiff, Int.reduceLE, Int.toNat_natCast, Int.natCast_nonneg, List.getElem?_map, List.length_map, Nat.zero_add, eq_self, Bool.not_true, Bool.not_false, h]
  refine gif_split (fun h => ?_) (fun h => ?_)
  · have hk : ik = 3 := of_decide_eq_true h
    simp -dsimp (maxDischargeDepth := 9) only [go_sem, Nat.reduceBEq, Nat.reduceLT, Nat.reduceAdd, Nat.reduceSub, Nat.reduceMul, Nat.reduceLeDiff, Int.reduceLE, Int.toNat_natCast, Int.natCast_nonneg, List.getElem?_map, List.length_map, Nat.zero_add, eq_self, Bool.not_true, Bool.not_false, h]
    refine andK_split (by simp only [List.size_toArray, List.length_cons, List.length_nil, List.length_append]; omega) ?_
    simp -dsimp (maxDischargeDepth := 9) only [go_sem, Nat.reduceBEq, Nat.reduceLT, Nat.reduceAdd, Nat.reduceSub, Nat.reduceMul, Nat.reduceLeDiff, Int.reduceLE, Int.toNat_natCast, Int.natCast_nonneg, List.getElem?_map, List.length_map, Nat.zero_add, eq_self, Bool.not_true, Bool.not_false, app_mk]
    refine args27_ok _ iins hil (by omega) (fun t ht' G K hK => way_ok t G K hK) _ ?_
    simp -dsimp (maxDischargeDepth := 9) only [go_sem, Nat.reduceBEq, Nat.reduceLT, Nat.reduceAdd, Nat.reduceSub, Nat.reduceMul, Nat.reduceLeDiff, Int.reduceLE, Int.toNat_natCast, Int.natCast_nonneg, List.getElem?_map, List.length_map, Nat.zero_add, eq_self, Bool.not_true, Bool.not_false]
    refine andK_split (by simp only [List.size_toArray, List.length_cons, List.length_nil, List.length_append]; omega) ?_
    simp -dsimp (maxDischargeDepth := 9) only [go_sem, Nat.reduceBEq, Nat.reduceLT, Nat.reduceAdd, Nat.reduceSub, Nat.reduceMul, Nat.reduceLeDiff, Int.reduceLE, Int.toNat_natCast, Int.natCast_nonneg, List.getElem?_map, List.length_map, Nat.zero_add, eq_self, Bool.not_true, Bool.not_false, app_mk]
    refine andK_split (by simp only [List.size_toArray, List.length_cons, List.length_nil, List.length_append]; omega) ?_
    simp -dsimp (maxDischargeDepth := 9) only [go_sem, Nat.reduceBEq, Nat.reduceLT, Nat.reduceAdd, Nat.reduceSub, Nat.reduceMul, Nat.reduceLeDiff, Int.reduceLE, Int.toNat_natCast, Int.natCast_nonneg, List.getElem?_map, List.length_map, Nat.zero_add, eq_self, Bool.not_true, Bool.not_false, app_mk]
    refine det_ok idet _ _ ?_
    simp -dsimp (maxDischargeDepth := 9) only [go_sem, Nat.reduceBEq, Nat.reduceLT, Nat.reduceAdd, Nat.reduceSub, Nat.reduceMul, Nat.reduceLeDiff, Int.reduceLE, Int.toNat_natCast, Int.natCast_nonneg, List.getElem?_map, List.length_map, Nat.zero_add, eq_self, Bool.not_true, Bool.not_false]
    refine andK_split (by simp only [List.size_toArray, List.length_cons, List.length_nil, List.length_append]; omega) ?_
    simp -dsimp (maxDischargeDepth := 9) only [go_sem, Nat.reduceBEq, Nat.reduceLT, Nat.reduceAdd, Nat.reduceSub, Nat.reduceMul, Nat.reduceLeDiff, Int.reduceLE, Int.toNat_natCast, Int.natCast_nonneg, List.getElem?_map, List.length_map, Nat.zero_add, eq_self, Bool.not_true, Bool.not_false, app_mk]
    refine andK_split (by simp only [List.size_toArray, List.length_cons, List.length_nil, List.length_append]; omega) ?_
    simp -dsimp (maxDischargeDepth := 9) only [go_sem, Nat.reduceBEq, Nat.reduceLT, Nat.reduceAdd, Nat.reduceSub, Nat.reduceMul, Nat.reduceLeDiff, Int.reduceLE, Int.toNat_natCast, Int.natCast_nonneg, List.getElem?_map, List.length_map, Nat.zero_add, eq_self, Bool.not_true, Bool.not_false, app_mk]
    refine hret _ ?_
    simp only [It.t, It.t0, hk, if_neg (show ¬ (3 : Int) = 1 by decide), if_neg (show ¬ (3 : Int) = 2 by decide), if_true, List.cons_append, List.nil_append, List.append_assoc]
  have k3 : ¬ ik = 3 := of_decide_eq_false h
  simp -dsimp (maxDischargeDepth := 9) only [go_sem, Nat.reduceBEq, Nat.reduceLT, Nat.reduceAdd, Nat.reduceSub, Nat.reduceMul, Nat.reduceLeDiff, Int.reduceLE, Int.toNat_natCast, Int.natCast_nonneg, List.getElem?_map, List.length_map, Nat.zero_add, eq_self, Bool.not_true, Bool.not_false, h]
  refine gif_split (fun h => ?_) (fun h => ?_)
  · have hk : ik = 4 := of_decide_eq_true h
    simp -dsimp (maxDischargeDepth := 9) only [go_sem, Nat.reduceBEq, Nat.reduceLT, Nat.reduceAdd, Nat.reduceSub, Nat.reduceMul, Nat.reduceLeDiff, Int.reduceLE, Int.toNat_natCast, Int.natCast_nonneg, List.getElem?_map, List.length_map, Nat.zero_add, eq_self, Bool.not_true, Bool.not_false, h]
    refine args30_ds _ iargs hal (by omega) (fun t ht' G K hK => term_ok hm t (hao t ht') (hasub t ht') G K hK) _ ?_
    simp -dsimp (maxDischargeDepth := 9) only [go_sem, Nat.reduceBEq, Nat.reduceLT, Nat.reduceAdd, Nat.reduceSub, Nat.reduceMul, Nat.reduceLeDiff, Int.reduceLE, Int.toNat_natCast, Int.natCast_nonneg, List.getElem?_map, List.length_map, Nat.zero_add, eq_self, Bool.not_true, Bool.not_false]
    refine andK_split (by simp only [List.size_toArray, List.length_cons, List.length_nil, List.length_append]; omega) ?_
    simp -dsimp (maxDischargeDepth := 9) only [go_sem, Nat.reduceBEq, Nat.reduceLT, Nat.reduceAdd, Nat.reduceSub, Nat.reduceMul, Nat.reduceLeDiff, Int.reduceLE, Int.toNat_natCast, Int.natCast_nonneg, List.getElem?_map, List.length_map, Nat.zero_add, eq_self, Bool.not_true, Bool.not_false, app_mk]
    refine gif_split (fun h => ?_) (fun h => ?_)
    · have hg1 : ¬ gk = 1 := by simpa using h
      simp -dsimp (maxDischargeDepth := 9) only [go_sem, Nat.reduceBEq, Nat.reduceLT, Nat.reduceAdd, Nat.reduceSub, Nat.reduceMul, Nat.reduceLeDiff, Int.reduceLE, Int.toNat_natCast, Int.natCast_nonneg, List.getElem?_map, List.length_map, Nat.zero_add, eq_self, Bool.not_true, Bool.not_false, h]
      rw [← hd]
      refine goal_ok hm g hgo (by omega) _ _ ?_
      simp -dsimp (maxDischargeDepth := 9) only [go_sem, Nat.reduceBEq, Nat.reduceLT, Nat.reduceAdd, Nat.reduceSub, Nat.reduceMul, Nat.reduceLeDiff, Int.reduceLE, Int.toNat_natCast, Int.natCast_nonneg, List.getElem?_map, List.length_map, Nat.zero_add, eq_self, Bool.not_true, Bool.not_false]
      refine andK_split (by simp only [List.size_toArray, List.length_cons, List.length_nil, List.length_append]; omega) ?_
      simp -dsimp (maxDischargeDepth := 9) only [go_sem, Nat.reduceBEq, Nat.reduceLT, Nat.reduceAdd, Nat.reduceSub, Nat.reduceMul, Nat.reduceLeDiff, Int.reduceLE, Int.toNat_natCast, Int.natCast_nonneg, List.getElem?_map, List.length_map, Nat.zero_add, eq_self, Bool.not_true, Bool.not_false, app_mk]
      refine andK_split (by simp only [List.size_toArray, List.length_cons, List.length_nil, List.length_append]; omega) ?_
      simp -dsimp (maxDischargeDepth := 9) only [go_sem, Nat.reduceBEq, Nat.reduceLT, Nat.reduceAdd, Nat.reduceSub, Nat.reduceMul, Nat.reduceLeDiff, Int.reduceLE, Int.toNat_natCast, Int.natCast_nonneg, List.getElem?_map, List.length_map, Nat.zero_add, eq_self, Bool.not_true, Bool.not_false, app_mk]
      refine andK_split (by simp only [List.size_toArray, List.length_cons, List.length_nil, List.length_append]; omega) ?_
      simp -dsimp (maxDischargeDepth := 9) only [go_sem, Nat.reduceBEq, Nat.reduceLT, Nat.reduceAdd, Nat.reduceSub, Nat.reduceMul, Nat.reduceLeDiff, Int.reduceLE, Int.toNat_natCast, Int.natCast_nonneg, List.getElem?_map, List.length_map, Nat.zero_add, eq_self, Bool.not_true, Bool.not_false, app_mk]
      refine hret _ ?_
      simp only [It.t, It.t0, hk, hgk, if_neg (show ¬ (4 : Int) = 1 by decide), if_neg (show ¬ (4 : Int) = 2 by decide), if_neg (show ¬ (4 : Int) = 3 by decide), if_true, if_neg hg1, List.cons_append, List.nil_append, List.append_assoc]
    · have hg1 : gk = 1 := by simpa using h
      simp -dsimp (maxDischargeDepth := 9) only [go_sem, Nat.reduceBEq, Nat.reduceLT, Nat.reduceAdd, Nat.reduceSub, Nat.reduceMul, Nat.reduceLeDiff, Int.reduceLE, Int.toNat_natCast, Int.natCast_nonneg, List.getElem?_map, List.length_map, Nat.zero_add, eq_self, Bool.not_true, Bool.not_false, h]
      refine andK_split (by simp only [List.size_toArray, List.length_cons, List.length_nil, List.length_append]; omega) ?_
      simp -dsimp (maxDischargeDepth := 9) only [go_sem, Nat.reduceBEq, Nat.reduceLT, Nat.reduceAdd, Nat.reduceSub, Nat.reduceMul, Nat.reduceLeDiff, Int.reduceLE, Int.toNat_natCast, Int.natCast_nonneg, List.getElem?_map, List.length_map, Nat.zero_add, eq_self, Bool.not_true, Bool.not_false, app_mk]
      refine hret _ ?_
      simp only [It.t, It.t0, hk, hgk, if_neg (show ¬ (4 : Int) = 1 by decide), if_neg (show ¬ (4 : Int) = 2 by decide), if_neg (show ¬ (4 : Int) = 3 by decide), if_true, if_pos hg1, List.cons_append, List.nil_append, List.append_assoc]
  have k4 : ¬ ik = 4 := of_decide_eq_false h
  simp -dsimp (maxDischargeDepth := 9) only [go_sem, Nat.reduceBEq, Nat.reduceLT, Nat.reduceAdd, Nat.reduceSub, Nat.reduceMul, Nat.reduceLeDiff, Int.reduceLE, Int.toNat_natCast, Int.natCast_nonneg, List.getElem?_map, List.length_map, Nat.zero_add, eq_self, Bool.not_true, Bool.not_false, h]
  refine andK_split (by simp only [List.size_toArray, List.length_cons, List.length_nil, List.length_append]; omega) ?_
  simp -dsimp (maxDischargeDepth := 9) only [go_sem, Nat.reduceBEq, Nat.reduceLT, Nat.reduceAdd, Nat.reduceSub, Nat.reduceMul, Nat.reduceLeDiff, Int.reduceLE, Int.toNat_natCast, Int.natCast_nonneg, List.getElem?_map, List.length_map, Nat.zero_add, eq_self, Bool.not_true, Bool.not_false, app_mk]
  refine hret _ ?_
  simp only [It.t, It.t0, if_neg k1, if_neg k2, if_neg k3, if_neg k4, List.nil_append]
end Go.Aug

/- The reference's rows, terms and types. -/
namespace Go.Aug
open Go.Proofs
set_option maxRecDepth 100000
set_option linter.unusedSimpArgs false

theorem join_snoc (l : List Str) (w sep : Str) : Lib.join (l ++ [w]) sep = (if l = [] then w else Lib.join l sep ++ sep ++ w) := by
  cases l with
  | nil => simp [Lib.join_one]
  | cons x r =>
    rw [if_neg (by simp)]
    simp only [List.cons_append, Lib.join_cons, Lib.joinTail, List.map_append, List.map_cons, List.map_nil, List.flatten_append, List.flatten_cons, List.flatten_nil, List.append_nil, List.append_assoc]
theorem tot_take (l : List Str) : ∀ k, tot (l.take k) ≤ tot l := by
  induction l with
  | nil => simp
  | cons x l ih =>
    intro k
    cases k with
    | zero => simp [tot]
    | succ k => have := ih k; simp only [tot, List.take_succ_cons, List.map_cons, List.sum_cons] at this ⊢; omega

attribute [local irreducible] hid andK letA onSome onVar onArr arrOnly onInt onBool onFunc onTup idxA ldV ldD addO ofPart appTo fillL slA srcK nilQ retW gif sgd sguard svc sops sdops sagain aopO aLoad aStore aBin aUn aConv aLen aIndexAddr aIndex aIndexAddrS aIndexS aSlice aAppend aBuild aBuildSlice aMakeSlice aField aFieldOf aCallOp deepK deepL frzM putE newK newV growV ACall roundQ thenQ inBlockQ sret cnd szs nilC onMap onRow aLookup aMapUpdate aMakeMap
variable {eb : Nat → Addr} {mm : Nat → Option Obj}

theorem rjoin_ok (ws : List Str) (sep : Str) (hs : sep.length ≤ 4) (ht : tot ws ≤ 268435456) (H : Heap) (K : A → Heap → Prop) (hK : K (.d (S (Lib.join ws sep))) H) :
    ACall Tryz.prog (seatZ eb mm) 33 [.d (.slice (ws.map S)), .d (S sep)] H K := by
  have hl : ws.length ≤ 268435456 := by
    have : ∀ ws : List Str, ws.length ≤ tot ws := by
      intro ws
      induction ws with
      | nil => simp
      | cons x l ih => simp only [tot, List.map_cons, List.sum_cons, List.length_cons] at ih ⊢; omega
    have := this ws; omega
  refine ACall.by mixed fn33 (by simp) ?_
  conv in s33 => cbv
  refine svc_start ?_
  simp -dsimp (maxDischargeDepth := 9) only [go_sem, Nat.reduceBEq, Nat.reduceLT, Nat.reduceAdd, Nat.reduceSub, Nat.reduceMul, Nat.reduceLeDiff, Int.reduceLE, Int.toNat_natCast, Int.natCast_nonneg, List.getElem?_map, List.length_map, Nat.zero_add, eq_self, Bool.not_true, Bool.not_false]
  refine svc_loop (X := Nat) (fun k => [(1, .d (S sep)), (5, .d (S (Lib.join (ws.take k) sep))), (8, .d (.slice (ws.map S))), (9, .d (.int .i64 ws.length)), (10, .d (.int .i64 k))])
    (fun k G => k ≤ ws.length ∧ LeH H G) (fun k => ws.length - k) 0 _ ⟨by omega, .refl _⟩ (by simp -dsimp (maxDischargeDepth := 9) only [go_sem, Nat.reduceBEq, Nat.reduceLT, Nat.reduceAdd, Nat.reduceSub, Nat.reduceMul, Nat.reduceLeDiff, Int.reduceLE, Int.toNat_natCast, Int.natCast_nonneg, List.getElem?_map, List.length_map, Nat.zero_add, eq_self, Bool.not_true, Bool.not_false]; simp [Lib.join_nil]) (.refl _) ?_
  rintro k G ⟨hk, gle⟩
  have hj := join_len (ws.take k) sep hs
  have hj2 := tot_take ws k
  simp -dsimp (maxDischargeDepth := 9) only [go_sem, Nat.reduceBEq, Nat.reduceLT, Nat.reduceAdd, Nat.reduceSub, Nat.reduceMul, Nat.reduceLeDiff, Int.reduceLE, Int.toNat_natCast, Int.natCast_nonneg, List.getElem?_map, List.length_map, Nat.zero_add, eq_self, Bool.not_true, Bool.not_false]
  refine gif_split (fun h2 => ?_) (fun h2 => ?_)
  · have hkl : k < ws.length := by have := of_decide_eq_true h2; omega
    obtain ⟨x, hx⟩ : ∃ x, ws[k]? = some x := ⟨ws[k], List.getElem?_eq_getElem hkl⟩
    have hw : IntKind.i64.wrap ((k : Int) + 1) = ((k + 1 : Nat) : Int) := by rw [wrap_in (by omega) (by omega)]; omega
    have hxl := tot_mem (List.mem_of_getElem? hx)
    have hsn := join_snoc (ws.take k) x sep
    rw [← take_snoc hx] at hsn
    simp -dsimp (maxDischargeDepth := 9) only [go_sem, Nat.reduceBEq, Nat.reduceLT, Nat.reduceAdd, Nat.reduceSub, Nat.reduceMul, Nat.reduceLeDiff, Int.reduceLE, Int.toNat_natCast, Int.natCast_nonneg, List.getElem?_map, List.length_map, Nat.zero_add, eq_self, Bool.not_true, Bool.not_false, h2, hx]
    refine gif_split (fun h3 => ?_) (fun h3 => ?_)
    · have hk0 : 0 < k := by have := of_decide_eq_true h3; omega
      rw [if_neg (by intro e; have := congrArg List.length e; simp at this; rcases this with h | h; omega; subst h; simp at hkl)] at hsn
      simp -dsimp (maxDischargeDepth := 9) only [go_sem, Nat.reduceBEq, Nat.reduceLT, Nat.reduceAdd, Nat.reduceSub, Nat.reduceMul, Nat.reduceLeDiff, Int.reduceLE, Int.toNat_natCast, Int.natCast_nonneg, List.getElem?_map, List.length_map, Nat.zero_add, eq_self, Bool.not_true, Bool.not_false, h3]
      refine andK_split (by simp only [List.size_toArray, List.length_cons, List.length_nil, List.length_append]; omega) ?_
      simp -dsimp (maxDischargeDepth := 9) only [go_sem, Nat.reduceBEq, Nat.reduceLT, Nat.reduceAdd, Nat.reduceSub, Nat.reduceMul, Nat.reduceLeDiff, Int.reduceLE, Int.toNat_natCast, Int.natCast_nonneg, List.getElem?_map, List.length_map, Nat.zero_add, eq_self, Bool.not_true, Bool.not_false, app_mk]
      refine andK_split (by simp only [List.size_toArray, List.length_cons, List.length_nil, List.length_append]; omega) ?_
      simp -dsimp (maxDischargeDepth := 9) only [go_sem, Nat.reduceBEq, Nat.reduceLT, Nat.reduceAdd, Nat.reduceSub, Nat.reduceMul, Nat.reduceLeDiff, Int.reduceLE, Int.toNat_natCast, Int.natCast_nonneg, List.getElem?_map, List.length_map, Nat.zero_add, eq_self, Bool.not_true, Bool.not_false, app_mk]
      simp -dsimp (maxDischargeDepth := 9) only [go_sem, Nat.reduceBEq, Nat.reduceLT, Nat.reduceAdd, Nat.reduceSub, Nat.reduceMul, Nat.reduceLeDiff, Int.reduceLE, Int.toNat_natCast, Int.natCast_nonneg, List.getElem?_map, List.length_map, Nat.zero_add, eq_self, Bool.not_true, Bool.not_false, hw]
      refine roundQ_next (k + 1) _ ⟨by omega, gle⟩ (by omega) (by simp -dsimp (maxDischargeDepth := 9) only [go_sem, Nat.reduceBEq, Nat.reduceLT, Nat.reduceAdd, Nat.reduceSub, Nat.reduceMul, Nat.reduceLeDiff, Int.reduceLE, Int.toNat_natCast, Int.natCast_nonneg, List.getElem?_map, List.length_map, Nat.zero_add, eq_self, Bool.not_true, Bool.not_false, hsn]) (.refl _)
    · have hk0 : k = 0 := by have := of_decide_eq_false h3; omega
      subst hk0
      rw [if_pos (by simp)] at hsn
      simp -dsimp (maxDischargeDepth := 9) only [go_sem, Nat.reduceBEq, Nat.reduceLT, Nat.reduceAdd, Nat.reduceSub, Nat.reduceMul, Nat.reduceLeDiff, Int.reduceLE, Int.toNat_natCast, Int.natCast_nonneg, List.getElem?_map, List.length_map, Nat.zero_add, eq_self, Bool.not_true, Bool.not_false, h3, List.take_zero, Lib.join_nil]
      refine andK_split (by simp only [List.size_toArray, List.length_cons, List.length_nil, List.length_append]; omega) ?_
      simp -dsimp (maxDischargeDepth := 9) only [go_sem, Nat.reduceBEq, Nat.reduceLT, Nat.reduceAdd, Nat.reduceSub, Nat.reduceMul, Nat.reduceLeDiff, Int.reduceLE, Int.toNat_natCast, Int.natCast_nonneg, List.getElem?_map, List.length_map, Nat.zero_add, eq_self, Bool.not_true, Bool.not_false, app_mk]
      simp -dsimp (maxDischargeDepth := 9) only [go_sem, Nat.reduceBEq, Nat.reduceLT, Nat.reduceAdd, Nat.reduceSub, Nat.reduceMul, Nat.reduceLeDiff, Int.reduceLE, Int.toNat_natCast, Int.natCast_nonneg, List.getElem?_map, List.length_map, Nat.zero_add, eq_self, Bool.not_true, Bool.not_false, hw]
      refine roundQ_next 1 _ ⟨by omega, gle⟩ (by omega) (by simp -dsimp (maxDischargeDepth := 9) only [go_sem, Nat.reduceBEq, Nat.reduceLT, Nat.reduceAdd, Nat.reduceSub, Nat.reduceMul, Nat.reduceLeDiff, Int.reduceLE, Int.toNat_natCast, Int.natCast_nonneg, List.getElem?_map, List.length_map, Nat.zero_add, eq_self, Bool.not_true, Bool.not_false, hsn]) (.refl _)
  · have hkl : k = ws.length := by have := of_decide_eq_false h2; omega
    subst hkl
    simp -dsimp (maxDischargeDepth := 9) only [go_sem, Nat.reduceBEq, Nat.reduceLT, Nat.reduceAdd, Nat.reduceSub, Nat.reduceMul, Nat.reduceLeDiff, Int.reduceLE, Int.toNat_natCast, Int.natCast_nonneg, List.getElem?_map, List.length_map, Nat.zero_add, eq_self, Bool.not_true, Bool.not_false, h2, List.take_length]
    exact retW_drop (G := H) gle (retW_is hK)

theorem rrow_ok (ws : List Str) (ht : tot ws ≤ 268435456) (H : Heap) (K : A → Heap → Prop) (hK : K (.d (S (rowT ws))) H) :
    ACall Tryz.prog (seatZ eb mm) 31 [.d (.slice (ws.map S))] H K := by
  have hj := join_len ws [44, 32] (by decide)
  refine ACall.by mixed fn31 (by simp) ?_
  conv in s31 => cbv
  refine svc_start ?_
  simp -dsimp (maxDischargeDepth := 9) only [go_sem, Nat.reduceBEq, Nat.reduceLT, Nat.reduceAdd, Nat.reduceSub, Nat.reduceMul, Nat.reduceLeDiff, Int.reduceLE, Int.toNat_natCast, Int.natCast_nonneg, List.getElem?_map, List.length_map, Nat.zero_add, eq_self, Bool.not_true, Bool.not_false]
  refine gif_split (fun h => ?_) (fun h => ?_)
  · have h0 : ws = [] := by have := of_decide_eq_true h; exact List.length_eq_zero_iff.1 (by omega)
    subst h0
    simp -dsimp (maxDischargeDepth := 9) only [go_sem, Nat.reduceBEq, Nat.reduceLT, Nat.reduceAdd, Nat.reduceSub, Nat.reduceMul, Nat.reduceLeDiff, Int.reduceLE, Int.toNat_natCast, Int.natCast_nonneg, List.getElem?_map, List.length_map, Nat.zero_add, eq_self, Bool.not_true, Bool.not_false, h]
    exact retW_is hK
  · have h0 : ws ≠ [] := by rintro rfl; have := of_decide_eq_false h; simp at this
    rw [rowT_ne h0] at hK
    simp -dsimp (maxDischargeDepth := 9) only [go_sem, Nat.reduceBEq, Nat.reduceLT, Nat.reduceAdd, Nat.reduceSub, Nat.reduceMul, Nat.reduceLeDiff, Int.reduceLE, Int.toNat_natCast, Int.natCast_nonneg, List.getElem?_map, List.length_map, Nat.zero_add, eq_self, Bool.not_true, Bool.not_false, h]
    refine rjoin_ok ws [44, 32] (by decide) ht _ _ ?_
    simp -dsimp (maxDischargeDepth := 9) only [go_sem, Nat.reduceBEq, Nat.reduceLT, Nat.reduceAdd, Nat.reduceSub, Nat.reduceMul, Nat.reduceLeDiff, Int.reduceLE, Int.toNat_natCast, Int.natCast_nonneg, List.getElem?_map, List.length_map, Nat.zero_add, eq_self, Bool.not_true, Bool.not_false]
    refine andK_split (by simp only [List.size_toArray, List.length_cons, List.length_nil, List.length_append]; omega) ?_
    simp -dsimp (maxDischargeDepth := 9) only [go_sem, Nat.reduceBEq, Nat.reduceLT, Nat.reduceAdd, Nat.reduceSub, Nat.reduceMul, Nat.reduceLeDiff, Int.reduceLE, Int.toNat_natCast, Int.natCast_nonneg, List.getElem?_map, List.length_map, Nat.zero_add, eq_self, Bool.not_true, Bool.not_false, app_mk]
    refine andK_split (by simp only [List.size_toArray, List.length_cons, List.length_nil, List.length_append]; omega) ?_
    simp -dsimp (maxDischargeDepth := 9) only [go_sem, Nat.reduceBEq, Nat.reduceLT, Nat.reduceAdd, Nat.reduceSub, Nat.reduceMul, Nat.reduceLeDiff, Int.reduceLE, Int.toNat_natCast, Int.natCast_nonneg, List.getElem?_map, List.length_map, Nat.zero_add, eq_self, Bool.not_true, Bool.not_false, app_mk]
    exact retW_is hK

theorem rtypes_ok (H : Heap) (l : List Ty) (hl : l.length ≤ 1048576)
    (ih : ∀ t ∈ l, ∀ (G : Heap) (K : A → Heap → Prop), K (.d (S t.t)) G → ACall Tryz.prog (seatZ eb mm) 14 [.d t.d] G K)
    (K : A → Heap → Prop) (hK : K (.d (.slice ((Ty.ts l).map S))) H) : ACall Tryz.prog (seatZ eb mm) 32 [.d (.slice (Ty.ds l))] H K := by
  rw [Ty.ts_map] at hK
  rw [Ty.ds_map]
  refine ACall.by mixed fn32 (by simp) ?_
  conv in s32 => cbv
  refine svc_start ?_
  simp -dsimp (maxDischargeDepth := 9) only [go_sem, Nat.reduceBEq, Nat.reduceLT, Nat.reduceAdd, Nat.reduceSub, Nat.reduceMul, Nat.reduceLeDiff, Int.reduceLE, Int.toNat_natCast, Int.natCast_nonneg, List.getElem?_map, List.length_map, Nat.zero_add, eq_self, Bool.not_true, Bool.not_false]
  refine newV_intro (fun b v hb hn hm hv => ?_)
  simp -dsimp (maxDischargeDepth := 9) only [go_sem, Nat.reduceBEq, Nat.reduceLT, Nat.reduceAdd, Nat.reduceSub, Nat.reduceMul, Nat.reduceLeDiff, Int.reduceLE, Int.toNat_natCast, Int.natCast_nonneg, List.getElem?_map, List.length_map, Nat.zero_add, eq_self, Bool.not_true, Bool.not_false, hn, hm]
  refine svc_loop (X := Nat × A) (fun x => [(3, x.2), (7, .d (.slice (l.map Ty.d))), (8, .d (.int .i64 l.length)), (9, .d (.int .i64 x.1))])
    (fun x G => x.1 ≤ l.length ∧ AccAt H 9 1 ((l.take x.1).map fun t => S t.t) x.2 G) (fun x => l.length - x.1) (0, .own b v) _ ⟨by simp, AccAt.own (leH_upd hb (.refl H)) hb hv (upd_same ..)⟩ (by simp -dsimp (maxDischargeDepth := 9) only [go_sem, Nat.reduceBEq, Nat.reduceLT, Nat.reduceAdd, Nat.reduceSub, Nat.reduceMul, Nat.reduceLeDiff, Int.reduceLE, Int.toNat_natCast, Int.natCast_nonneg, List.getElem?_map, List.length_map, Nat.zero_add, eq_self, Bool.not_true, Bool.not_false]; simp) (.refl _) ?_
  rintro ⟨k, a⟩ G ⟨hk, hacc⟩
  simp only at hk hacc
  simp -dsimp (maxDischargeDepth := 9) only [go_sem, Nat.reduceBEq, Nat.reduceLT, Nat.reduceAdd, Nat.reduceSub, Nat.reduceMul, Nat.reduceLeDiff, Int.reduceLE, Int.toNat_natCast, Int.natCast_nonneg, List.getElem?_map, List.length_map, Nat.zero_add, eq_self, Bool.not_true, Bool.not_false]
  refine gif_split (fun h2 => ?_) (fun h2 => ?_)
  · have hkl : k < l.length := by have := of_decide_eq_true h2; omega
    obtain ⟨x, hx⟩ : ∃ x, l[k]? = some x := ⟨l[k], List.getElem?_eq_getElem hkl⟩
    have hw : IntKind.i64.wrap ((k : Int) + 1) = ((k + 1 : Nat) : Int) := by rw [wrap_in (by omega) (by omega)]; omega
    have hmx : x ∈ l := List.mem_of_getElem? hx
    obtain ⟨xv, xn, xa⟩ := x
    simp -dsimp (maxDischargeDepth := 9) only [go_sem, Nat.reduceBEq, Nat.reduceLT, Nat.reduceAdd, Nat.reduceSub, Nat.reduceMul, Nat.reduceLeDiff, Int.reduceLE, Int.toNat_natCast, Int.natCast_nonneg, List.getElem?_map, List.length_map, Nat.zero_add, eq_self, Bool.not_true, Bool.not_false, h2, hx]
    refine andK_split rfl ?_
    simp -dsimp (maxDischargeDepth := 9) only [go_sem, Nat.reduceBEq, Nat.reduceLT, Nat.reduceAdd, Nat.reduceSub, Nat.reduceMul, Nat.reduceLeDiff, Int.reduceLE, Int.toNat_natCast, Int.natCast_nonneg, List.getElem?_map, List.length_map, Nat.zero_add, eq_self, Bool.not_true, Bool.not_false, Ty.d, Ty.cs, D.cells]
    refine newK_intro (fun b7 hb7 hn7 hm7 => ?_)
    simp -dsimp (maxDischargeDepth := 9) only [go_sem, Nat.reduceBEq, Nat.reduceLT, Nat.reduceAdd, Nat.reduceSub, Nat.reduceMul, Nat.reduceLeDiff, Int.reduceLE, Int.toNat_natCast, Int.natCast_nonneg, List.getElem?_map, List.length_map, Nat.zero_add, eq_self, Bool.not_true, Bool.not_false]
    refine ih (.mk xv xn xa) hmx _ _ ?_
    simp -dsimp (maxDischargeDepth := 9) only [go_sem, Nat.reduceBEq, Nat.reduceLT, Nat.reduceAdd, Nat.reduceSub, Nat.reduceMul, Nat.reduceLeDiff, Int.reduceLE, Int.toNat_natCast, Int.natCast_nonneg, List.getElem?_map, List.length_map, Nat.zero_add, eq_self, Bool.not_true, Bool.not_false]
    rw [upd_upd]
    refine newV_intro (fun b9 v9 hb9 hn9 hm9 hv9 => ?_)
    simp -dsimp (maxDischargeDepth := 9) only [go_sem, Nat.reduceBEq, Nat.reduceLT, Nat.reduceAdd, Nat.reduceSub, Nat.reduceMul, Nat.reduceLeDiff, Int.reduceLE, Int.toNat_natCast, Int.natCast_nonneg, List.getElem?_map, List.length_map, Nat.zero_add, eq_self, Bool.not_true, Bool.not_false]
    refine appTo_acc ((hacc.up hb7).up hb9) (by simp only [List.length_map, List.length_take, List.length_cons, List.length_nil]; omega) (fun a' G' hacc' => ?_)
    simp -dsimp (maxDischargeDepth := 9) only [go_sem, Nat.reduceBEq, Nat.reduceLT, Nat.reduceAdd, Nat.reduceSub, Nat.reduceMul, Nat.reduceLeDiff, Int.reduceLE, Int.toNat_natCast, Int.natCast_nonneg, List.getElem?_map, List.length_map, Nat.zero_add, eq_self, Bool.not_true, Bool.not_false, hw]
    refine roundQ_next (k + 1, a') _ ⟨by simp only; omega, ?_⟩ (by simp only; omega) (by simp -dsimp (maxDischargeDepth := 9) only [go_sem, Nat.reduceBEq, Nat.reduceLT, Nat.reduceAdd, Nat.reduceSub, Nat.reduceMul, Nat.reduceLeDiff, Int.reduceLE, Int.toNat_natCast, Int.natCast_nonneg, List.getElem?_map, List.length_map, Nat.zero_add, eq_self, Bool.not_true, Bool.not_false]) (.refl _)
    simp only [take_snoc hx, List.map_append, List.map_cons, List.map_nil]
    exact hacc'
  · have hkl : k = l.length := by have := of_decide_eq_false h2; omega
    subst hkl
    simp -dsimp (maxDischargeDepth := 9) only [go_sem, Nat.reduceBEq, Nat.reduceLT, Nat.reduceAdd, Nat.reduceSub, Nat.reduceMul, Nat.reduceLeDiff, Int.reduceLE, Int.toNat_natCast, Int.natCast_nonneg, List.getElem?_map, List.length_map, Nat.zero_add, eq_self, Bool.not_true, Bool.not_false, h2]
    rw [List.take_length] at hacc
    exact retW_acc hacc (by simpa [Function.comp_def] using hK)
theorem rterms_ok (H : Heap) (l : List Tm) (hl : l.length ≤ 1048576)
    (ih : ∀ t ∈ l, ∀ (G : Heap) (K : A → Heap → Prop), K (.d (S t.t)) G → ACall Tryz.prog (seatZ eb mm) 12 [.d t.d] G K)
    (K : A → Heap → Prop) (hK : K (.d (.slice ((Tm.ts l).map S))) H) : ACall Tryz.prog (seatZ eb mm) 34 [.d (.slice (Tm.ds l))] H K := by
  rw [Tm.ts_map] at hK
  rw [Tm.ds_map]
  refine ACall.by mixed fn34 (by simp) ?_
  conv in s34 => cbv
  refine svc_start ?_
  simp -dsimp (maxDischargeDepth := 9) only [go_sem, Nat.reduceBEq, Nat.reduceLT, Nat.reduceAdd, Nat.reduceSub, Nat.reduceMul, Nat.reduceLeDiff, Int.reduceLE, Int.toNat_natCast, Int.natCast_nonneg, List.getElem?_map, List.length_map, Nat.zero_add, eq_self, Bool.not_true, Bool.not_false]
  refine newV_intro (fun b v hb hn hm hv => ?_)
  simp -dsimp (maxDischargeDepth := 9) only [go_sem, Nat.reduceBEq, Nat.reduceLT, Nat.reduceAdd, Nat.reduceSub, Nat.reduceMul, Nat.reduceLeDiff, Int.reduceLE, Int.toNat_natCast, Int.natCast_nonneg, List.getElem?_map, List.length_map, Nat.zero_add, eq_self, Bool.not_true, Bool.not_false, hn, hm]
  refine svc_loop (X := Nat × A) (fun x => [(3, x.2), (7, .d (.slice (l.map Tm.d))), (8, .d (.int .i64 l.length)), (9, .d (.int .i64 x.1))])
    (fun x G => x.1 ≤ l.length ∧ AccAt H 9 1 ((l.take x.1).map fun t => S t.t) x.2 G) (fun x => l.length - x.1) (0, .own b v) _ ⟨by simp, AccAt.own (leH_upd hb (.refl H)) hb hv (upd_same ..)⟩ (by simp -dsimp (maxDischargeDepth := 9) only [go_sem, Nat.reduceBEq, Nat.reduceLT, Nat.reduceAdd, Nat.reduceSub, Nat.reduceMul, Nat.reduceLeDiff, Int.reduceLE, Int.toNat_natCast, Int.natCast_nonneg, List.getElem?_map, List.length_map, Nat.zero_add, eq_self, Bool.not_true, Bool.not_false]; simp) (.refl _) ?_
  rintro ⟨k, a⟩ G ⟨hk, hacc⟩
  simp only at hk hacc
  simp -dsimp (maxDischargeDepth := 9) only [go_sem, Nat.reduceBEq, Nat.reduceLT, Nat.reduceAdd, Nat.reduceSub, Nat.reduceMul, Nat.reduceLeDiff, Int.reduceLE, Int.toNat_natCast, Int.natCast_nonneg, List.getElem?_map, List.length_map, Nat.zero_add, eq_self, Bool.not_true, Bool.not_false]
  refine gif_split (fun h2 => ?_) (fun h2 => ?_)
  · have hkl : k < l.length := by have := of_decide_eq_true h2; omega
    obtain ⟨x, hx⟩ : ∃ x, l[k]? = some x := ⟨l[k], List.getElem?_eq_getElem hkl⟩
    have hw : IntKind.i64.wrap ((k : Int) + 1) = ((k + 1 : Nat) : Int) := by rw [wrap_in (by omega) (by omega)]; omega
    have hmx : x ∈ l := List.mem_of_getElem? hx
    obtain ⟨xk, xn, xi, xa⟩ := x
    simp -dsimp (maxDischargeDepth := 9) only [go_sem, Nat.reduceBEq, Nat.reduceLT, Nat.reduceAdd, Nat.reduceSub, Nat.reduceMul, Nat.reduceLeDiff, Int.reduceLE, Int.toNat_natCast, Int.natCast_nonneg, List.getElem?_map, List.length_map, Nat.zero_add, eq_self, Bool.not_true, Bool.not_false, h2, hx]
    refine andK_split rfl ?_
    simp -dsimp (maxDischargeDepth := 9) only [go_sem, Nat.reduceBEq, Nat.reduceLT, Nat.reduceAdd, Nat.reduceSub, Nat.reduceMul, Nat.reduceLeDiff, Int.reduceLE, Int.toNat_natCast, Int.natCast_nonneg, List.getElem?_map, List.length_map, Nat.zero_add, eq_self, Bool.not_true, Bool.not_false, Tm.d, Tm.cs, D.cells]
    refine newK_intro (fun b7 hb7 hn7 hm7 => ?_)
    simp -dsimp (maxDischargeDepth := 9) only [go_sem, Nat.reduceBEq, Nat.reduceLT, Nat.reduceAdd, Nat.reduceSub, Nat.reduceMul, Nat.reduceLeDiff, Int.reduceLE, Int.toNat_natCast, Int.natCast_nonneg, List.getElem?_map, List.length_map, Nat.zero_add, eq_self, Bool.not_true, Bool.not_false]
    refine ih (.mk xk xn xi xa) hmx _ _ ?_
    simp -dsimp (maxDischargeDepth := 9) only [go_sem, Nat.reduceBEq, Nat.reduceLT, Nat.reduceAdd, Nat.reduceSub, Nat.reduceMul, Nat.reduceLeDiff, Int.reduceLE, Int.toNat_natCast, Int.natCast_nonneg, List.getElem?_map, List.length_map, Nat.zero_add, eq_self, Bool.not_true, Bool.not_false]
    rw [upd_upd]
    refine newV_intro (fun b9 v9 hb9 hn9 hm9 hv9 => ?_)
    simp -dsimp (maxDischargeDepth := 9) only [go_sem, Nat.reduceBEq, Nat.reduceLT, Nat.reduceAdd, Nat.reduceSub, Nat.reduceMul, Nat.reduceLeDiff, Int.reduceLE, Int.toNat_natCast, Int.natCast_nonneg, List.getElem?_map, List.length_map, Nat.zero_add, eq_self, Bool.not_true, Bool.not_false]
    refine appTo_acc ((hacc.up hb7).up hb9) (by simp only [List.length_map, List.length_take, List.length_cons, List.length_nil]; omega) (fun a' G' hacc' => ?_)
    simp -dsimp (maxDischargeDepth := 9) only [go_sem, Nat.reduceBEq, Nat.reduceLT, Nat.reduceAdd, Nat.reduceSub, Nat.reduceMul, Nat.reduceLeDiff, Int.reduceLE, Int.toNat_natCast, Int.natCast_nonneg, List.getElem?_map, List.length_map, Nat.zero_add, eq_self, Bool.not_true, Bool.not_false, hw]
    refine roundQ_next (k + 1, a') _ ⟨by simp only; omega, ?_⟩ (by simp only; omega) (by simp -dsimp (maxDischargeDepth := 9) only [go_sem, Nat.reduceBEq, Nat.reduceLT, Nat.reduceAdd, Nat.reduceSub, Nat.reduceMul, Nat.reduceLeDiff, Int.reduceLE, Int.toNat_natCast, Int.natCast_nonneg, List.getElem?_map, List.length_map, Nat.zero_add, eq_self, Bool.not_true, Bool.not_false]) (.refl _)
    simp only [take_snoc hx, List.map_append, List.map_cons, List.map_nil]
    exact hacc'
  · have hkl : k = l.length := by have := of_decide_eq_false h2; omega
    subst hkl
    simp -dsimp (maxDischargeDepth := 9) only [go_sem, Nat.reduceBEq, Nat.reduceLT, Nat.reduceAdd, Nat.reduceSub, Nat.reduceMul, Nat.reduceLeDiff, Int.reduceLE, Int.toNat_natCast, Int.natCast_nonneg, List.getElem?_map, List.length_map, Nat.zero_add, eq_self, Bool.not_true, Bool.not_false, h2]
    rw [List.take_length] at hacc
    exact retW_acc hacc (by simpa [Function.comp_def] using hK)
theorem rtype_ok : ∀ (t : Ty) (_ : D.sizes t.cs ≤ 1048576) (H : Heap) (K : A → Heap → Prop) (_ : K (.d (S t.t)) H), ACall Tryz.prog (seatZ eb mm) 14 [.d t.d] H K
  | .mk v n args, hs, H, K, hK => by
    have hsz : n.length + 1 + D.sizes (Ty.ds args) ≤ 1048576 := by simp only [Ty.cs, D.sizes, D.size, size_mk'] at hs; omega
    have hl : args.length ≤ 1048576 := by have := D.length_le (Ty.ds args); rw [Ty.ds_map, List.length_map] at this; rw [Ty.ds_map] at hsz; omega
    have ht := Ty.lens args
    have hr := rowT_len (Ty.ts args)
    rw [Ty.t] at hK
    refine ACall.by mixed fn14 (by simp) ?_
    conv in s14 => cbv
    refine svc_start ?_
    simp -dsimp (maxDischargeDepth := 9) only [go_sem, Nat.reduceBEq, Nat.reduceLT, Nat.reduceAdd, Nat.reduceSub, Nat.reduceMul, Nat.reduceLeDiff, Int.reduceLE, Int.toNat_natCast, Int.natCast_nonneg, List.getElem?_map, List.length_map, Nat.zero_add, eq_self, Bool.not_true, Bool.not_false, Ty.d, Ty.cs]
    refine newK_intro (fun b1 hb1 hn1 hm1 => ?_)
    simp -dsimp (maxDischargeDepth := 9) only [go_sem, Nat.reduceBEq, Nat.reduceLT, Nat.reduceAdd, Nat.reduceSub, Nat.reduceMul, Nat.reduceLeDiff, Int.reduceLE, Int.toNat_natCast, Int.natCast_nonneg, List.getElem?_map, List.length_map, Nat.zero_add, eq_self, Bool.not_true, Bool.not_false]
    refine rtypes_ok _ args hl (fun t ht' G K hK => rtype_ok t ?_ G K hK) _ ?_
    · have := D.mem_le (l := Ty.ds args) (d := t.d) (by rw [Ty.ds_map]; exact List.mem_map_of_mem ht')
      simp only [Ty.d, D.size] at this
      omega
    · simp -dsimp (maxDischargeDepth := 9) only [go_sem, Nat.reduceBEq, Nat.reduceLT, Nat.reduceAdd, Nat.reduceSub, Nat.reduceMul, Nat.reduceLeDiff, Int.reduceLE, Int.toNat_natCast, Int.natCast_nonneg, List.getElem?_map, List.length_map, Nat.zero_add, eq_self, Bool.not_true, Bool.not_false]
      refine rrow_ok _ (by omega) _ _ ?_
      simp -dsimp (maxDischargeDepth := 9) only [go_sem, Nat.reduceBEq, Nat.reduceLT, Nat.reduceAdd, Nat.reduceSub, Nat.reduceMul, Nat.reduceLeDiff, Int.reduceLE, Int.toNat_natCast, Int.natCast_nonneg, List.getElem?_map, List.length_map, Nat.zero_add, eq_self, Bool.not_true, Bool.not_false]
      refine andK_split (by simp only [List.size_toArray, List.length_cons, List.length_nil, List.length_append]; omega) ?_
      simp -dsimp (maxDischargeDepth := 9) only [go_sem, Nat.reduceBEq, Nat.reduceLT, Nat.reduceAdd, Nat.reduceSub, Nat.reduceMul, Nat.reduceLeDiff, Int.reduceLE, Int.toNat_natCast, Int.natCast_nonneg, List.getElem?_map, List.length_map, Nat.zero_add, eq_self, Bool.not_true, Bool.not_false, app_mk]
      exact retW_drop (G := H) (leH_upd hb1 (.refl H)) (retW_is hK)
termination_by t => SizeOf.sizeOf t
decreasing_by
  have := List.sizeOf_lt_of_mem ht'
  simp
  omega

theorem rterm_ok : ∀ (t : Tm) (_ : t.ok) (_ : D.sizes t.cs ≤ 1048576) (H : Heap) (K : A → Heap → Prop) (_ : K (.d (S t.t)) H), ACall Tryz.prog (seatZ eb mm) 12 [.d t.d] H K
  | .mk k n i args, ho, hs, H, K, hK => by
    have hsz : n.length + 1 + D.sizes (Tm.ds args) ≤ 1048576 := by simp only [Tm.cs, D.sizes, D.size, size_mk'] at hs; omega
    have hl : args.length ≤ 1048576 := by have := D.length_le (Tm.ds args); rw [Tm.ds_map, List.length_map] at this; rw [Tm.ds_map] at hsz; omega
    have ht := Tm.lens args ho.2.2
    have hr := rowT_len (Tm.ts args)
    have hil := itoa_len ho.2.1
    have hio := ho.2.1
    have hoa := Tm.oks_mem ho.2.2
    have hsub : ∀ t' ∈ args, D.sizes t'.cs ≤ 1048576 := fun t' ht' => by
      have := D.mem_le (l := Tm.ds args) (d := t'.d) (by rw [Tm.ds_map]; exact List.mem_map_of_mem ht')
      simp only [Tm.d, D.size] at this
      omega
    rw [Tm.t] at hK
    refine ACall.by mixed fn12 (by simp) ?_
    conv in s12 => cbv
    refine svc_start ?_
    simp -dsimp (maxDischargeDepth := 9) only [go_sem, Nat.reduceBEq, Nat.reduceLT, Nat.reduceAdd, Nat.reduceSub, Nat.reduceMul, Nat.reduceLeDiff, Int.reduceLE, Int.toNat_natCast, Int.natCast_nonneg, List.getElem?_map, List.length_map, Nat.zero_add, eq_self, Bool.not_true, Bool.not_false, Tm.d, Tm.cs]
    refine newK_intro (fun b1 hb1 hn1 hm1 => ?_)
    simp -dsimp (maxDischargeDepth := 9) only [go_sem, Nat.reduceBEq, Nat.reduceLT, Nat.reduceAdd, Nat.reduceSub, Nat.reduceMul, Nat.reduceLeDiff, Int.reduceLE, Int.toNat_natCast, Int.natCast_nonneg, List.getElem?_map, List.length_map, Nat.zero_add, eq_self, Bool.not_true, Bool.not_false]
    refine gif_split (fun h => ?_) (fun h => ?_)
    · have hk : k = 2 := of_decide_eq_true h
      rw [if_pos hk] at hK
      simp -dsimp (maxDischargeDepth := 9) only [go_sem, Nat.reduceBEq, Nat.reduceLT, Nat.reduceAdd, Nat.reduceSub, Nat.reduceMul, Nat.reduceLeDiff, Int.reduceLE, Int.toNat_natCast, Int.natCast_nonneg, List.getElem?_map, List.length_map, Nat.zero_add, eq_self, Bool.not_true, Bool.not_false, h]
      refine decimal_ok _ i hio.1 hio.2 _ ?_
      simp -dsimp (maxDischargeDepth := 9) only [go_sem, Nat.reduceBEq, Nat.reduceLT, Nat.reduceAdd, Nat.reduceSub, Nat.reduceMul, Nat.reduceLeDiff, Int.reduceLE, Int.toNat_natCast, Int.natCast_nonneg, List.getElem?_map, List.length_map, Nat.zero_add, eq_self, Bool.not_true, Bool.not_false]
      refine rterms_ok _ args hl (fun t ht' G K hK => rterm_ok t (hoa t ht') (hsub t ht') G K hK) _ ?_
      simp -dsimp (maxDischargeDepth := 9) only [go_sem, Nat.reduceBEq, Nat.reduceLT, Nat.reduceAdd, Nat.reduceSub, Nat.reduceMul, Nat.reduceLeDiff, Int.reduceLE, Int.toNat_natCast, Int.natCast_nonneg, List.getElem?_map, List.length_map, Nat.zero_add, eq_self, Bool.not_true, Bool.not_false]
      refine rrow_ok _ (by omega) _ _ ?_
      simp -dsimp (maxDischargeDepth := 9) only [go_sem, Nat.reduceBEq, Nat.reduceLT, Nat.reduceAdd, Nat.reduceSub, Nat.reduceMul, Nat.reduceLeDiff, Int.reduceLE, Int.toNat_natCast, Int.natCast_nonneg, List.getElem?_map, List.length_map, Nat.zero_add, eq_self, Bool.not_true, Bool.not_false]
      refine andK_split (by simp only [List.size_toArray, List.length_cons, List.length_nil, List.length_append]; omega) ?_
      simp -dsimp (maxDischargeDepth := 9) only [go_sem, Nat.reduceBEq, Nat.reduceLT, Nat.reduceAdd, Nat.reduceSub, Nat.reduceMul, Nat.reduceLeDiff, Int.reduceLE, Int.toNat_natCast, Int.natCast_nonneg, List.getElem?_map, List.length_map, Nat.zero_add, eq_self, Bool.not_true, Bool.not_false, app_mk]
      exact retW_drop (G := H) (leH_upd hb1 (.refl H)) (retW_is hK)
    · have hk : ¬ k = 2 := of_decide_eq_false h
      rw [if_neg hk] at hK
      simp -dsimp (maxDischargeDepth := 9) only [go_sem, Nat.reduceBEq, Nat.reduceLT, Nat.reduceAdd, Nat.reduceSub, Nat.reduceMul, Nat.reduceLeDiff, Int.reduceLE, Int.toNat_natCast, Int.natCast_nonneg, List.getElem?_map, List.length_map, Nat.zero_add, eq_self, Bool.not_true, Bool.not_false, h]
      refine rterms_ok _ args hl (fun t ht' G K hK => rterm_ok t (hoa t ht') (hsub t ht') G K hK) _ ?_
      simp -dsimp (maxDischargeDepth := 9) only [go_sem, Nat.reduceBEq, Nat.reduceLT, Nat.reduceAdd, Nat.reduceSub, Nat.reduceMul, Nat.reduceLeDiff, Int.reduceLE, Int.toNat_natCast, Int.natCast_nonneg, List.getElem?_map, List.length_map, Nat.zero_add, eq_self, Bool.not_true, Bool.not_false]
      refine rrow_ok _ (by omega) _ _ ?_
      simp -dsimp (maxDischargeDepth := 9) only [go_sem, Nat.reduceBEq, Nat.reduceLT, Nat.reduceAdd, Nat.reduceSub, Nat.reduceMul, Nat.reduceLeDiff, Int.reduceLE, Int.toNat_natCast, Int.natCast_nonneg, List.getElem?_map, List.length_map, Nat.zero_add, eq_self, Bool.not_true, Bool.not_false]
      refine andK_split (by simp only [List.size_toArray, List.length_cons, List.length_nil, List.length_append]; omega) ?_
      simp -dsimp (maxDischargeDepth := 9) only [go_sem, Nat.reduceBEq, Nat.reduceLT, Nat.reduceAdd, Nat.reduceSub, Nat.reduceMul, Nat.reduceLeDiff, Int.reduceLE, Int.toNat_natCast, Int.natCast_nonneg, List.getElem?_map, List.length_map, Nat.zero_add, eq_self, Bool.not_true, Bool.not_false, app_mk]
      exact retW_drop (G := H) (leH_upd hb1 (.refl H)) (retW_is hK)
termination_by t => SizeOf.sizeOf t
decreasing_by
  all_goals (
    have := List.sizeOf_lt_of_mem ht'
    simp
    omega)
end Go.Aug

/- The reference's goals. -/
namespace Go.Aug
open Go.Proofs
set_option maxRecDepth 100000
set_option linter.unusedSimpArgs false

def rbr (k gk : Int) : Bool := if k = 6 then gk == 6 else if k = 5 ∨ k = 7 ∨ k = 9 then gk == 6 || gk == 5 else false
def Gl.rw (k : Int) (g : Gl) : Str := brT (rbr k g.kind) g.t
theorem Gl.rw_t (k : Int) (g : Gl) (h : rbr k g.kind = true) : Gl.rw k g = 40 :: (g.t ++ [41]) := by unfold Gl.rw; rw [h]; rfl
theorem Gl.rw_f (k : Int) (g : Gl) (h : rbr k g.kind = false) : Gl.rw k g = g.t := by unfold Gl.rw; rw [h]; rfl
theorem Gl.rw_w {k : Int} (h : k = 5 ∨ k = 6 ∨ k = 7 ∨ k = 9) (l : List Gl) : l.map (Gl.rw k) = Gl.ws k l := by
  rw [Gl.ws_map]
  refine List.map_congr_left fun g _ => ?_
  unfold Gl.rw Gl.w
  have : rbr k g.kind = loose k g.kind := by
    unfold rbr loose
    rcases h with rfl | rfl | rfl | rfl <;> simp
  rw [this]

attribute [local irreducible] hid andK letA onSome onVar onArr arrOnly onInt onBool onFunc onTup idxA ldV ldD addO ofPart appTo fillL slA srcK nilQ retW gif sgd sguard svc sops sdops sagain aopO aLoad aStore aBin aUn aConv aLen aIndexAddr aIndex aIndexAddrS aIndexS aSlice aAppend aBuild aBuildSlice aMakeSlice aField aFieldOf aCallOp deepK deepL frzM putE newK newV growV ACall roundQ thenQ inBlockQ sret cnd szs nilC onMap onRow aLookup aMapUpdate aMakeMap
variable {eb : Nat → Addr} {mm : Nat → Option Obj}

theorem inner_ok (k : Int) (g : Gl) (hg : g.ok) (hs : D.sizes g.cs ≤ 1048576) (ih : ∀ (G : Heap) (K : A → Heap → Prop), K (.d (S g.t)) G → ACall Tryz.prog (seatZ eb mm) 10 [.d g.d] G K)
    (H : Heap) (K : A → Heap → Prop) (hK : K (.d (S (Gl.rw k g))) H) : ACall Tryz.prog (seatZ eb mm) 37 [.d (.int .i64 k), .d g.d] H K := by
  have hl := Gl.len g hg
  refine ACall.by mixed fn37 (by simp) ?_
  conv in s37 => cbv
  refine svc_start ?_
  obtain ⟨gk, ak, an, ai, aa, bk, bn, bi, ba, n, ga, gs, he⟩ := Gl.open g
  have hd : g.d = .agg [.int .i64 gk, .int .i64 ak, S an, .int .i64 ai, .slice (Tm.ds aa), .int .i64 bk, S bn, .int .i64 bi, .slice (Tm.ds ba), S n, .slice (Tm.ds ga), .slice (Gl.ds gs)] := by rw [he]; rfl
  have hkd : g.kind = gk := by rw [he]; rfl
  simp -dsimp (maxDischargeDepth := 9) only [go_sem, Nat.reduceBEq, Nat.reduceLT, Nat.reduceAdd, Nat.reduceSub, Nat.reduceMul, Nat.reduceLeDiff, Int.reduceLE, Int.toNat_natCast, Int.natCast_nonneg, List.getElem?_map, List.length_map, Nat.zero_add, eq_self, Bool.not_true, Bool.not_false, hd]
  refine newK_intro (fun b1 hb1 hn1 hm1 => ?_)
  simp -dsimp (maxDischargeDepth := 9) only [go_sem, Nat.reduceBEq, Nat.reduceLT, Nat.reduceAdd, Nat.reduceSub, Nat.reduceMul, Nat.reduceLeDiff, Int.reduceLE, Int.toNat_natCast, Int.natCast_nonneg, List.getElem?_map, List.length_map, Nat.zero_add, eq_self, Bool.not_true, Bool.not_false]
  refine gif_split (fun h => ?_) (fun h => ?_)
  · have h6 : k = 6 := of_decide_eq_true h
    simp -dsimp (maxDischargeDepth := 9) only [go_sem, Nat.reduceBEq, Nat.reduceLT, Nat.reduceAdd, Nat.reduceSub, Nat.reduceMul, Nat.reduceLeDiff, Int.reduceLE, Int.toNat_natCast, Int.natCast_nonneg, List.getElem?_map, List.length_map, Nat.zero_add, eq_self, Bool.not_true, Bool.not_false, h]
    refine gif_split (fun h2 => ?_) (fun h2 => ?_)
    · have hr : rbr k g.kind = true := by rw [hkd, h6]; simpa [rbr] using h2
      rw [Gl.rw_t k g hr] at hK
      simp -dsimp (maxDischargeDepth := 9) only [go_sem, Nat.reduceBEq, Nat.reduceLT, Nat.reduceAdd, Nat.reduceSub, Nat.reduceMul, Nat.reduceLeDiff, Int.reduceLE, Int.toNat_natCast, Int.natCast_nonneg, List.getElem?_map, List.length_map, Nat.zero_add, eq_self, Bool.not_true, Bool.not_false, h2]
      rw [← hd]
      refine ih _ _ ?_
      simp -dsimp (maxDischargeDepth := 9) only [go_sem, Nat.reduceBEq, Nat.reduceLT, Nat.reduceAdd, Nat.reduceSub, Nat.reduceMul, Nat.reduceLeDiff, Int.reduceLE, Int.toNat_natCast, Int.natCast_nonneg, List.getElem?_map, List.length_map, Nat.zero_add, eq_self, Bool.not_true, Bool.not_false]
      refine andK_split (by simp only [List.size_toArray, List.length_cons, List.length_nil, List.length_append]; omega) ?_
      simp -dsimp (maxDischargeDepth := 9) only [go_sem, Nat.reduceBEq, Nat.reduceLT, Nat.reduceAdd, Nat.reduceSub, Nat.reduceMul, Nat.reduceLeDiff, Int.reduceLE, Int.toNat_natCast, Int.natCast_nonneg, List.getElem?_map, List.length_map, Nat.zero_add, eq_self, Bool.not_true, Bool.not_false, app_mk]
      refine andK_split (by simp only [List.size_toArray, List.length_cons, List.length_nil, List.length_append]; omega) ?_
      simp -dsimp (maxDischargeDepth := 9) only [go_sem, Nat.reduceBEq, Nat.reduceLT, Nat.reduceAdd, Nat.reduceSub, Nat.reduceMul, Nat.reduceLeDiff, Int.reduceLE, Int.toNat_natCast, Int.natCast_nonneg, List.getElem?_map, List.length_map, Nat.zero_add, eq_self, Bool.not_true, Bool.not_false, app_mk]
      exact retW_drop (G := H) (leH_upd hb1 (.refl H)) (retW_is hK)
    · have hr : rbr k g.kind = false := by rw [hkd, h6]; simpa [rbr] using h2
      rw [Gl.rw_f k g hr] at hK
      simp -dsimp (maxDischargeDepth := 9) only [go_sem, Nat.reduceBEq, Nat.reduceLT, Nat.reduceAdd, Nat.reduceSub, Nat.reduceMul, Nat.reduceLeDiff, Int.reduceLE, Int.toNat_natCast, Int.natCast_nonneg, List.getElem?_map, List.length_map, Nat.zero_add, eq_self, Bool.not_true, Bool.not_false, h2]
      rw [← hd]
      refine ih _ _ ?_
      simp -dsimp (maxDischargeDepth := 9) only [go_sem, Nat.reduceBEq, Nat.reduceLT, Nat.reduceAdd, Nat.reduceSub, Nat.reduceMul, Nat.reduceLeDiff, Int.reduceLE, Int.toNat_natCast, Int.natCast_nonneg, List.getElem?_map, List.length_map, Nat.zero_add, eq_self, Bool.not_true, Bool.not_false]
      exact retW_drop (G := H) (leH_upd hb1 (.refl H)) (retW_is hK)
  have k6 : ¬ k = 6 := of_decide_eq_false h
  simp -dsimp (maxDischargeDepth := 9) only [go_sem, Nat.reduceBEq, Nat.reduceLT, Nat.reduceAdd, Nat.reduceSub, Nat.reduceMul, Nat.reduceLeDiff, Int.reduceLE, Int.toNat_natCast, Int.natCast_nonneg, List.getElem?_map, List.length_map, Nat.zero_add, eq_self, Bool.not_true, Bool.not_false, h]
  refine gif_split (fun h => ?_) (fun h => ?_)
  · have h5 : k = 5 := of_decide_eq_true h
    simp -dsimp (maxDischargeDepth := 9) only [go_sem, Nat.reduceBEq, Nat.reduceLT, Nat.reduceAdd, Nat.reduceSub, Nat.reduceMul, Nat.reduceLeDiff, Int.reduceLE, Int.toNat_natCast, Int.natCast_nonneg, List.getElem?_map, List.length_map, Nat.zero_add, eq_self, Bool.not_true, Bool.not_false, h]
    refine gif_split (fun h2 => ?_) (fun h2 => ?_)
    · have hr : rbr k g.kind = true := by rw [hkd, h5]; have := of_decide_eq_true h2; simp [rbr, this]
      rw [Gl.rw_t k g hr] at hK
      simp -dsimp (maxDischargeDepth := 9) only [go_sem, Nat.reduceBEq, Nat.reduceLT, Nat.reduceAdd, Nat.reduceSub, Nat.reduceMul, Nat.reduceLeDiff, Int.reduceLE, Int.toNat_natCast, Int.natCast_nonneg, List.getElem?_map, List.length_map, Nat.zero_add, eq_self, Bool.not_true, Bool.not_false, h2]
      rw [← hd]
      refine ih _ _ ?_
      simp -dsimp (maxDischargeDepth := 9) only [go_sem, Nat.reduceBEq, Nat.reduceLT, Nat.reduceAdd, Nat.reduceSub, Nat.reduceMul, Nat.reduceLeDiff, Int.reduceLE, Int.toNat_natCast, Int.natCast_nonneg, List.getElem?_map, List.length_map, Nat.zero_add, eq_self, Bool.not_true, Bool.not_false]
      refine andK_split (by simp only [List.size_toArray, List.length_cons, List.length_nil, List.length_append]; omega) ?_
      simp -dsimp (maxDischargeDepth := 9) only [go_sem, Nat.reduceBEq, Nat.reduceLT, Nat.reduceAdd, Nat.reduceSub, Nat.reduceMul, Nat.reduceLeDiff, Int.reduceLE, Int.toNat_natCast, Int.natCast_nonneg, List.getElem?_map, List.length_map, Nat.zero_add, eq_self, Bool.not_true, Bool.not_false, app_mk]
      refine andK_split (by simp only [List.size_toArray, List.length_cons, List.length_nil, List.length_append]; omega) ?_
      simp -dsimp (maxDischargeDepth := 9) only [go_sem, Nat.reduceBEq, Nat.reduceLT, Nat.reduceAdd, Nat.reduceSub, Nat.reduceMul, Nat.reduceLeDiff, Int.reduceLE, Int.toNat_natCast, Int.natCast_nonneg, List.getElem?_map, List.length_map, Nat.zero_add, eq_self, Bool.not_true, Bool.not_false, app_mk]
      exact retW_drop (G := H) (leH_upd hb1 (.refl H)) (retW_is hK)
    · have g6 : ¬ gk = 6 := of_decide_eq_false h2
      simp -dsimp (maxDischargeDepth := 9) only [go_sem, Nat.reduceBEq, Nat.reduceLT, Nat.reduceAdd, Nat.reduceSub, Nat.reduceMul, Nat.reduceLeDiff, Int.reduceLE, Int.toNat_natCast, Int.natCast_nonneg, List.getElem?_map, List.length_map, Nat.zero_add, eq_self, Bool.not_true, Bool.not_false, h2]
      refine gif_split (fun h2 => ?_) (fun h2 => ?_)
      · have hr : rbr k g.kind = true := by rw [hkd, h5]; have := of_decide_eq_true h2; simp [rbr, this]
        rw [Gl.rw_t k g hr] at hK
        simp -dsimp (maxDischargeDepth := 9) only [go_sem, Nat.reduceBEq, Nat.reduceLT, Nat.reduceAdd, Nat.reduceSub, Nat.reduceMul, Nat.reduceLeDiff, Int.reduceLE, Int.toNat_natCast, Int.natCast_nonneg, List.getElem?_map, List.length_map, Nat.zero_add, eq_self, Bool.not_true, Bool.not_false, h2]
        rw [← hd]
        refine ih _ _ ?_
        simp -dsimp (maxDischargeDepth := 9) only [go_sem, Nat.reduceBEq, Nat.reduceLT, Nat.reduceAdd, Nat.reduceSub, Nat.reduceMul, Nat.reduceLeDiff, Int.reduceLE, Int.toNat_natCast, Int.natCast_nonneg, List.getElem?_map, List.length_map, Nat.zero_add, eq_self, Bool.not_true, Bool.not_false]
        refine andK_split (by simp only [List.size_toArray, List.length_cons, List.length_nil, List.length_append]; omega) ?_
        simp -dsimp (maxDischargeDepth := 9) only [go_sem, Nat.reduceBEq, Nat.reduceLT, Nat.reduceAdd, Nat.reduceSub, Nat.reduceMul, Nat.reduceLeDiff, Int.reduceLE, Int.toNat_natCast, Int.natCast_nonneg, List.getElem?_map, List.length_map, Nat.zero_add, eq_self, Bool.not_true, Bool.not_false, app_mk]
        refine andK_split (by simp only [List.size_toArray, List.length_cons, List.length_nil, List.length_append]; omega) ?_
        simp -dsimp (maxDischargeDepth := 9) only [go_sem, Nat.reduceBEq, Nat.reduceLT, Nat.reduceAdd, Nat.reduceSub, Nat.reduceMul, Nat.reduceLeDiff, Int.reduceLE, Int.toNat_natCast, Int.natCast_nonneg, List.getElem?_map, List.length_map, Nat.zero_add, eq_self, Bool.not_true, Bool.not_false, app_mk]
        exact retW_drop (G := H) (leH_upd hb1 (.refl H)) (retW_is hK)
      · have hr : rbr k g.kind = false := by rw [hkd, h5]; have := of_decide_eq_false h2; simp [rbr, this, g6]
        rw [Gl.rw_f k g hr] at hK
        simp -dsimp (maxDischargeDepth := 9) only [go_sem, Nat.reduceBEq, Nat.reduceLT, Nat.reduceAdd, Nat.reduceSub, Nat.reduceMul, Nat.reduceLeDiff, Int.reduceLE, Int.toNat_natCast, Int.natCast_nonneg, List.getElem?_map, List.length_map, Nat.zero_add, eq_self, Bool.not_true, Bool.not_false, h2]
        rw [← hd]
        refine ih _ _ ?_
        simp -dsimp (maxDischargeDepth := 9) only [go_sem, Nat.reduceBEq, Nat.reduceLT, Nat.reduceAdd, Nat.reduceSub, Nat.reduceMul, Nat.reduceLeDiff, Int.reduceLE, Int.toNat_natCast, Int.natCast_nonneg, List.getElem?_map, List.length_map, Nat.zero_add, eq_self, Bool.not_true, Bool.not_false]
        exact retW_drop (G := H) (leH_upd hb1 (.refl H)) (retW_is hK)
  have k5 : ¬ k = 5 := of_decide_eq_false h
  simp -dsimp (maxDischargeDepth := 9) only [go_sem, Nat.reduceBEq, Nat.reduceLT, Nat.reduceAdd, Nat.reduceSub, Nat.reduceMul, Nat.reduceLeDiff, Int.reduceLE, Int.toNat_natCast, Int.natCast_nonneg, List.getElem?_map, List.length_map, Nat.zero_add, eq_self, Bool.not_true, Bool.not_false, h]
  refine gif_split (fun h => ?_) (fun h => ?_)
  · have h5 : k = 7 := of_decide_eq_true h
    simp -dsimp (maxDischargeDepth := 9) only [go_sem, Nat.reduceBEq, Nat.reduceLT, Nat.reduceAdd, Nat.reduceSub, Nat.reduceMul, Nat.reduceLeDiff, Int.reduceLE, Int.toNat_natCast, Int.natCast_nonneg, List.getElem?_map, List.length_map, Nat.zero_add, eq_self, Bool.not_true, Bool.not_false, h]
    refine gif_split (fun h2 => ?_) (fun h2 => ?_)
    · have hr : rbr k g.kind = true := by rw [hkd, h5]; have := of_decide_eq_true h2; simp [rbr, this]
      rw [Gl.rw_t k g hr] at hK
      simp -dsimp (maxDischargeDepth := 9) only [go_sem, Nat.reduceBEq, Nat.reduceLT, Nat.reduceAdd, Nat.reduceSub, Nat.reduceMul, Nat.reduceLeDiff, Int.reduceLE, Int.toNat_natCast, Int.natCast_nonneg, List.getElem?_map, List.length_map, Nat.zero_add, eq_self, Bool.not_true, Bool.not_false, h2]
      rw [← hd]
      refine ih _ _ ?_
      simp -dsimp (maxDischargeDepth := 9) only [go_sem, Nat.reduceBEq, Nat.reduceLT, Nat.reduceAdd, Nat.reduceSub, Nat.reduceMul, Nat.reduceLeDiff, Int.reduceLE, Int.toNat_natCast, Int.natCast_nonneg, List.getElem?_map, List.length_map, Nat.zero_add, eq_self, Bool.not_true, Bool.not_false]
      refine andK_split (by simp only [List.size_toArray, List.length_cons, List.length_nil, List.length_append]; omega) ?_
      simp -dsimp (maxDischargeDepth := 9) only [go_sem, Nat.reduceBEq, Nat.reduceLT, Nat.reduceAdd, Nat.reduceSub, Nat.reduceMul, Nat.reduceLeDiff, Int.reduceLE, Int.toNat_natCast, Int.natCast_nonneg, List.getElem?_map, List.length_map, Nat.zero_add, eq_self, Bool.not_true, Bool.not_false, app_mk]
      refine andK_split (by simp only [List.size_toArray, List.length_cons, List.length_nil, List.length_append]; omega) ?_
      simp -dsimp (maxDischargeDepth := 9) only [go_sem, Nat.reduceBEq, Nat.reduceLT, Nat.reduceAdd, Nat.reduceSub, Nat.reduceMul, Nat.reduceLeDiff, Int.reduceLE, Int.toNat_natCast, Int.natCast_nonneg, List.getElem?_map, List.length_map, Nat.zero_add, eq_self, Bool.not_true, Bool.not_false, app_mk]
      exact retW_drop (G := H) (leH_upd hb1 (.refl H)) (retW_is hK)
    · have g6 : ¬ gk = 6 := of_decide_eq_false h2
      simp -dsimp (maxDischargeDepth := 9) only [go_sem, Nat.reduceBEq, Nat.reduceLT, Nat.reduceAdd, Nat.reduceSub, Nat.reduceMul, Nat.reduceLeDiff, Int.reduceLE, Int.toNat_natCast, Int.natCast_nonneg, List.getElem?_map, List.length_map, Nat.zero_add, eq_self, Bool.not_true, Bool.not_false, h2]
      refine gif_split (fun h2 => ?_) (fun h2 => ?_)
      · have hr : rbr k g.kind = true := by rw [hkd, h5]; have := of_decide_eq_true h2; simp [rbr, this]
        rw [Gl.rw_t k g hr] at hK
        simp -dsimp (maxDischargeDepth := 9) only [go_sem, Nat.reduceBEq, Nat.reduceLT, Nat.reduceAdd, Nat.reduceSub, Nat.reduceMul, Nat.reduceLeDiff, Int.reduceLE, Int.toNat_natCast, Int.natCast_nonneg, List.getElem?_map, List.length_map, Nat.zero_add, eq_self, Bool.not_true, Bool.not_false, h2]
        rw [← hd]
        refine ih _ _ ?_
        simp -dsimp (maxDischargeDepth := 9) only [go_sem, Nat.reduceBEq, Nat.reduceLT, Nat.reduceAdd, Nat.reduceSub, Nat.reduceMul, Nat.reduceLeDiff, Int.reduceLE, Int.toNat_natCast, Int.natCast_nonneg, List.getElem?_map, List.length_map, Nat.zero_add, eq_self, Bool.not_true, Bool.not_false]
        refine andK_split (by simp only [List.size_toArray, List.length_cons, List.length_nil, List.length_append]; omega) ?_
        simp -dsimp (maxDischargeDepth := 9) only [go_sem, Nat.reduceBEq, Nat.reduceLT, Nat.reduceAdd, Nat.reduceSub, Nat.reduceMul, Nat.reduceLeDiff, Int.reduceLE, Int.toNat_natCast, Int.natCast_nonneg, List.getElem?_map, List.length_map, Nat.zero_add, eq_self, Bool.not_true, Bool.not_false, app_mk]
        refine andK_split (by simp only [List.size_toArray, List.length_cons, List.length_nil, List.length_append]; omega) ?_
        simp -dsimp (maxDischargeDepth := 9) only [go_sem, Nat.reduceBEq, Nat.reduceLT, Nat.reduceAdd, Nat.reduceSub, Nat.reduceMul, Nat.reduceLeDiff, Int.reduceLE, Int.toNat_natCast, Int.natCast_nonneg, List.getElem?_map, List.length_map, Nat.zero_add, eq_self, Bool.not_true, Bool.not_false, app_mk]
        exact retW_drop (G := H) (leH_upd hb1 (.refl H)) (retW_is hK)
      · have hr : rbr k g.kind = false := by rw [hkd, h5]; have := of_decide_eq_false h2; simp [rbr, this, g6]
        rw [Gl.rw_f k g hr] at hK
        simp -dsimp (maxDischargeDepth := 9) only [go_sem, Nat.reduceBEq, Nat.reduceLT, Nat.reduceAdd, Nat.reduceSub, Nat.reduceMul, Nat.reduceLeDiff, Int.reduceLE, Int.toNat_natCast, Int.natCast_nonneg, List.getElem?_map, List.length_map, Nat.zero_add, eq_self, Bool.not_true, Bool.not_false, h2]
        rw [← hd]
        refine ih _ _ ?_
        simp -dsimp (maxDischargeDepth := 9) only [go_sem, Nat.reduceBEq, Nat.reduceLT, Nat.reduceAdd, Nat.reduceSub, Nat.reduceMul, Nat.reduceLeDiff, Int.reduceLE, Int.toNat_natCast, Int.natCast_nonneg, List.getElem?_map, List.length_map, Nat.zero_add, eq_self, Bool.not_true, Bool.not_false]
        exact retW_drop (G := H) (leH_upd hb1 (.refl H)) (retW_is hK)
  have k7 : ¬ k = 7 := of_decide_eq_false h
  simp -dsimp (maxDischargeDepth := 9) only [go_sem, Nat.reduceBEq, Nat.reduceLT, Nat.reduceAdd, Nat.reduceSub, Nat.reduceMul, Nat.reduceLeDiff, Int.reduceLE, Int.toNat_natCast, Int.natCast_nonneg, List.getElem?_map, List.length_map, Nat.zero_add, eq_self, Bool.not_true, Bool.not_false, h]
  refine gif_split (fun h => ?_) (fun h => ?_)
  · have h5 : k = 9 := of_decide_eq_true h
    simp -dsimp (maxDischargeDepth := 9) only [go_sem, Nat.reduceBEq, Nat.reduceLT, Nat.reduceAdd, Nat.reduceSub, Nat.reduceMul, Nat.reduceLeDiff, Int.reduceLE, Int.toNat_natCast, Int.natCast_nonneg, List.getElem?_map, List.length_map, Nat.zero_add, eq_self, Bool.not_true, Bool.not_false, h]
    refine gif_split (fun h2 => ?_) (fun h2 => ?_)
    · have hr : rbr k g.kind = true := by rw [hkd, h5]; have := of_decide_eq_true h2; simp [rbr, this]
      rw [Gl.rw_t k g hr] at hK
      simp -dsimp (maxDischargeDepth := 9) only [go_sem, Nat.reduceBEq, Nat.reduceLT, Nat.reduceAdd, Nat.reduceSub, Nat.reduceMul, Nat.reduceLeDiff, Int.reduceLE, Int.toNat_natCast, Int.natCast_nonneg, List.getElem?_map, List.length_map, Nat.zero_add, eq_self, Bool.not_true, Bool.not_false, h2]
      rw [← hd]
      refine ih _ _ ?_
      simp -dsimp (maxDischargeDepth := 9) only [go_sem, Nat.reduceBEq, Nat.reduceLT, Nat.reduceAdd, Nat.reduceSub, Nat.reduceMul, Nat.reduceLeDiff, Int.reduceLE, Int.toNat_natCast, Int.natCast_nonneg, List.getElem?_map, List.length_map, Nat.zero_add, eq_self, Bool.not_true, Bool.not_false]
      refine andK_split (by simp only [List.size_toArray, List.length_cons, List.length_nil, List.length_append]; omega) ?_
      simp -dsimp (maxDischargeDepth := 9) only [go_sem, Nat.reduceBEq, Nat.reduceLT, Nat.reduceAdd, Nat.reduceSub, Nat.reduceMul, Nat.reduceLeDiff, Int.reduceLE, Int.toNat_natCast, Int.natCast_nonneg, List.getElem?_map, List.length_map, Nat.zero_add, eq_self, Bool.not_true, Bool.not_false, app_mk]
      refine andK_split (by simp only [List.size_toArray, List.length_cons, List.length_nil, List.length_append]; omega) ?_
      simp -dsimp (maxDischargeDepth := 9) only [go_sem, Nat.reduceBEq, Nat.reduceLT, Nat.reduceAdd, Nat.reduceSub, Nat.reduceMul, Nat.reduceLeDiff, Int.reduceLE, Int.toNat_natCast, Int.natCast_nonneg, List.getElem?_map, List.length_map, Nat.zero_add, eq_self, Bool.not_true, Bool.not_false, app_mk]
      exact retW_drop (G := H) (leH_upd hb1 (.refl H)) (retW_is hK)
    · have g6 : ¬ gk = 6 := of_decide_eq_false h2
      simp -dsimp (maxDischargeDepth := 9) only [go_sem, Nat.reduceBEq, Nat.reduceLT, Nat.reduceAdd, Nat.reduceSub, Nat.reduceMul, Nat.reduceLeDiff, Int.reduceLE, Int.toNat_natCast, Int.natCast_nonneg, List.getElem?_map, List.length_map, Nat.zero_add, eq_self, Bool.not_true, Bool.not_false, h2]
      refine gif_split (fun h2 => ?_) (fun h2 => ?_)
      · have hr : rbr k g.kind = true := by rw [hkd, h5]; have := of_decide_eq_true h2; simp [rbr, this]
        rw [Gl.rw_t k g hr] at hK
        simp -dsimp (maxDischargeDepth := 9) only [go_sem, Nat.reduceBEq, Nat.reduceLT, Nat.reduceAdd, Nat.reduceSub, Nat.reduceMul, Nat.reduceLeDiff, Int.reduceLE, Int.toNat_natCast, Int.natCast_nonneg, List.getElem?_map, List.length_map, Nat.zero_add, eq_self, Bool.not_true, Bool.not_false, h2]
        rw [← hd]
        refine ih _ _ ?_
        simp -dsimp (maxDischargeDepth := 9) only [go_sem, Nat.reduceBEq, Nat.reduceLT, Nat.reduceAdd, Nat.reduceSub, Nat.reduceMul, Nat.reduceLeDiff, Int.reduceLE, Int.toNat_natCast, Int.natCast_nonneg, List.getElem?_map, List.length_map, Nat.zero_add, eq_self, Bool.not_true, Bool.not_false]
        refine andK_split (by simp only [List.size_toArray, List.length_cons, List.length_nil, List.length_append]; omega) ?_
        simp -dsimp (maxDischargeDepth := 9) only [go_sem, Nat.reduceBEq, Nat.reduceLT, Nat.reduceAdd, Nat.reduceSub, Nat.reduceMul, Nat.reduceLeDiff, Int.reduceLE, Int.toNat_natCast, Int.natCast_nonneg, List.getElem?_map, List.length_map, Nat.zero_add, eq_self, Bool.not_true, Bool.not_false, app_mk]
        refine andK_split (by simp only [List.size_toArray, List.length_cons, List.length_nil, List.length_append]; omega) ?_
        simp -dsimp (maxDischargeDepth := 9) only [go_sem, Nat.reduceBEq, Nat.reduceLT, Nat.reduceAdd, Nat.reduceSub, Nat.reduceMul, Nat.reduceLeDiff, Int.reduceLE, Int.toNat_natCast, Int.natCast_nonneg, List.getElem?_map, List.length_map, Nat.zero_add, eq_self, Bool.not_true, Bool.not_false, app_mk]
        exact retW_drop (G := H) (leH_upd hb1 (.refl H)) (retW_is hK)
      · have hr : rbr k g.kind = false := by rw [hkd, h5]; have := of_decide_eq_false h2; simp [rbr, this, g6]
        rw [Gl.rw_f k g hr] at hK
        simp -dsimp (maxDischargeDepth := 9) only [go_sem, Nat.reduceBEq, Nat.reduceLT, Nat.reduceAdd, Nat.reduceSub, Nat.reduceMul, Nat.reduceLeDiff, Int.reduceLE, Int.toNat_natCast, Int.natCast_nonneg, List.getElem?_map, List.length_map, Nat.zero_add, eq_self, Bool.not_true, Bool.not_false, h2]
        rw [← hd]
        refine ih _ _ ?_
        simp -dsimp (maxDischargeDepth := 9) only [go_sem, Nat.reduceBEq, Nat.reduceLT, Nat.reduceAdd, Nat.reduceSub, Nat.reduceMul, Nat.reduceLeDiff, Int.reduceLE, Int.toNat_natCast, Int.natCast_nonneg, List.getElem?_map, List.length_map, Nat.zero_add, eq_self, Bool.not_true, Bool.not_false]
        exact retW_drop (G := H) (leH_upd hb1 (.refl H)) (retW_is hK)
  have k9 : ¬ k = 9 := of_decide_eq_false h
  have hr : rbr k g.kind = false := by rw [hkd]; simp [rbr, k6, k5, k7, k9]
  simp -dsimp (maxDischargeDepth := 9) only [go_sem, Nat.reduceBEq, Nat.reduceLT, Nat.reduceAdd, Nat.reduceSub, Nat.reduceMul, Nat.reduceLeDiff, Int.reduceLE, Int.toNat_natCast, Int.natCast_nonneg, List.getElem?_map, List.length_map, Nat.zero_add, eq_self, Bool.not_true, Bool.not_false, h]
  rw [Gl.rw_f k g hr] at hK
  rw [← hd]
  refine ih _ _ ?_
  simp -dsimp (maxDischargeDepth := 9) only [go_sem, Nat.reduceBEq, Nat.reduceLT, Nat.reduceAdd, Nat.reduceSub, Nat.reduceMul, Nat.reduceLeDiff, Int.reduceLE, Int.toNat_natCast, Int.natCast_nonneg, List.getElem?_map, List.length_map, Nat.zero_add, eq_self, Bool.not_true, Bool.not_false]
  exact retW_drop (G := H) (leH_upd hb1 (.refl H)) (retW_is hK)
end Go.Aug

/- The reference's goals: Goal. -/
namespace Go.Aug
open Go.Proofs
set_option maxRecDepth 100000
set_option linter.unusedSimpArgs false

theorem acc_isOwn {G H : Heap} {E : TypeId} {sz : Nat} {l : List D} {a : A} (h : AccAt G E sz l a H) (hl : l ≠ []) : ∃ b v, a = .own b v := by
  obtain ⟨_, ⟨h0, _⟩ | ⟨b, v, rfl, _⟩⟩ := h
  · exact (hl h0).elim
  · exact ⟨b, v, rfl⟩
theorem acc_at {G H : Heap} {E : TypeId} {sz : Nat} {l : List D} {b : Nat} {v : Value} (h : AccAt G E sz l (.own b v) H) : G b = none ∧ H b = some (.arr E sz v l) := by
  obtain ⟨_, ⟨_, h0⟩ | ⟨b', v', h1, h2, _, h3⟩⟩ := h
  · cases h0
  · cases h1; exact ⟨h2, h3⟩
theorem getD_S (ws : List Str) (i : Nat) (h : i < ws.length) : (ws.map S)[i]? = some (S (ws.getD i [])) := by
  simp [List.getElem?_map, List.getD, List.getElem?_eq_getElem h]

attribute [local irreducible] hid andK letA onSome onVar onArr arrOnly onInt onBool onFunc onTup idxA ldV ldD addO ofPart appTo fillL slA srcK nilQ retW gif sgd sguard svc sops sdops sagain aopO aLoad aStore aBin aUn aConv aLen aIndexAddr aIndex aIndexAddrS aIndexS aSlice aAppend aBuild aBuildSlice aMakeSlice aField aFieldOf aCallOp deepK deepL frzM putE newK newV growV ACall roundQ thenQ inBlockQ sret cnd szs nilC onMap onRow aLookup aMapUpdate aMakeMap
variable {eb : Nat → Addr} {mm : Nat → Option Obj}

theorem rgoal_ok : ∀ (g : Gl) (_ : g.ok) (_ : D.sizes g.cs ≤ 1048576) (H : Heap) (K : A → Heap → Prop) (_ : K (.d (S g.t)) H), ACall Tryz.prog (seatZ eb mm) 10 [.d g.d] H K
  | .mk gk a b n ga gs, ho, hs, H, K, hK => by
    obtain ⟨g, he⟩ : ∃ g, g = Gl.mk gk a b n ga gs := ⟨_, rfl⟩
    have hlen := Gl.len _ ho
    have hgs : Gl.oks gs := ho.2.2.2.2
    have hes : D.sizes (Gl.cs (.mk gk a b n ga gs)) = 1 + (D.sizes a.cs + (D.sizes b.cs + (n.length + 1 + (D.sizes (Tm.ds ga) + 1 + (D.sizes (Gl.ds gs) + 1))))) := by
      simp only [Gl.cs, D.sizes, D.sizes_append, D.size, size_mk']
    have hsz : D.sizes (Gl.ds gs) ≤ 1048576 := by omega
    have has : D.sizes a.cs ≤ 1048576 := by omega
    have hbs : D.sizes b.cs ≤ 1048576 := by omega
    have hgz : D.sizes (Tm.ds ga) ≤ 1048576 := by omega
    have hnz : n.length ≤ 1048576 := by omega
    have hal := a.len ho.2.1
    have hbl := b.len ho.2.2.1
    have hga : ga.length ≤ 1048576 := by have := D.length_le (Tm.ds ga); rw [Tm.ds_map, List.length_map] at this; rw [Tm.ds_map] at hes; omega
    have hgt := Tm.lens ga ho.2.2.2.1
    have hgr := rowT_len (Tm.ts ga)
    have hgo := Tm.oks_mem ho.2.2.2.1
    have hgsub : ∀ t' ∈ ga, D.sizes t'.cs ≤ 1048576 := fun t' ht' => by
      have := D.mem_le (l := Tm.ds ga) (d := t'.d) (by rw [Tm.ds_map]; exact List.mem_map_of_mem ht')
      simp only [Tm.d, D.size] at this
      omega
    have hwl := Gl.lens gs hgs gk
    have hw2 := getD2_len (Gl.ws gk gs)
    have hgl : gs.length ≤ 1048576 := by have := D.length_le (Gl.ds gs); rw [Gl.ds_map, List.length_map] at this; rw [Gl.ds_map] at hsz; omega
    have hgz' : ∀ g' ∈ gs, D.sizes g'.cs ≤ 1048576 := fun g' hg' => by
      have := D.mem_le (l := Gl.ds gs) (d := g'.d) (by rw [Gl.ds_map]; exact List.mem_map_of_mem hg')
      simp only [Gl.d, D.size] at this
      omega
    have ih : SubOk eb mm 10 gs := fun g' hg' G K hK => rgoal_ok g' (Gl.oks_mem hgs g' hg') (hgz' g' hg') G K hK
    have hoa := ho.2.1
    have hob := ho.2.2.1
    rw [← he] at ho hs
    refine ACall.by mixed fn10 (by simp) ?_
    conv in s10 => cbv
    refine svc_start ?_
    obtain ⟨ak, an, ai, aa⟩ := a
    obtain ⟨bk, bn, bi, ba⟩ := b
    have hd : g.d = .agg [.int .i64 gk, .int .i64 ak, S an, .int .i64 ai, .slice (Tm.ds aa), .int .i64 bk, S bn, .int .i64 bi, .slice (Tm.ds ba), S n, .slice (Tm.ds ga), .slice (gs.map Gl.d)] := by rw [he, ← Gl.ds_map]; rfl
    have hda : Tm.d (.mk ak an ai aa) = .agg [.int .i64 ak, S an, .int .i64 ai, .slice (Tm.ds aa)] := rfl
    have hdb : Tm.d (.mk bk bn bi ba) = .agg [.int .i64 bk, S bn, .int .i64 bi, .slice (Tm.ds ba)] := rfl
    rw [← he, hd]
    unfold Gl.t at hK
    simp -dsimp (maxDischargeDepth := 9) only [go_sem, Nat.reduceBEq, Nat.reduceLT, Nat.reduceAdd, Nat.reduceSub, Nat.reduceMul, Nat.reduceLeDiff, Int.reduceLE, Int.toNat_natCast, Int.natCast_nonneg, List.getElem?_map, List.length_map, Nat.zero_add, eq_self, Bool.not_true, Bool.not_false]
    refine newK_intro (fun b1 hb1 hn1 hm1 => ?_)
    simp -dsimp (maxDischargeDepth := 9) only [go_sem, Nat.reduceBEq, Nat.reduceLT, Nat.reduceAdd, Nat.reduceSub, Nat.reduceMul, Nat.reduceLeDiff, Int.reduceLE, Int.toNat_natCast, Int.natCast_nonneg, List.getElem?_map, List.length_map, Nat.zero_add, eq_self, Bool.not_true, Bool.not_false]
    refine newV_intro (fun b3 v3 hb3 hn3 hm3 hv3 => ?_)
    generalize hHB : upd H b1 _ = HB at hb3 hn3 hm3 ⊢
    have g1 := congrFun hHB b1
    rw [upd_same] at g1
    have g1 := g1.symm
    have hle : LeH H HB := by rw [← hHB]; exact leH_upd hb1 (.refl H)
    have e1 : eqn b1 b3 = false := hn3 b1 (by rw [g1]; rfl)
    simp -dsimp (maxDischargeDepth := 9) only [go_sem, Nat.reduceBEq, Nat.reduceLT, Nat.reduceAdd, Nat.reduceSub, Nat.reduceMul, Nat.reduceLeDiff, Int.reduceLE, Int.toNat_natCast, Int.natCast_nonneg, List.getElem?_map, List.length_map, Nat.zero_add, eq_self, Bool.not_true, Bool.not_false, e1, g1, hn3, hm3]
    refine svc_loop (X := Nat × A) (fun x => [(1, .ref b1 0), (3, x.2), (10, .d (.slice (gs.map Gl.d))), (11, .d (.int .i64 gs.length)), (12, .d (.int .i64 x.1))])
      (fun x G => x.1 ≤ gs.length ∧ AccAt HB 9 1 ((gs.take x.1).map fun t => S (Gl.rw gk t)) x.2 G ∧ ∃ b v, x.2 = .own b v) (fun x => gs.length - x.1) (0, .own b3 v3) _ ⟨by simp, AccAt.own (leH_upd hb3 (.refl HB)) hb3 hv3 (upd_same ..), _, _, rfl⟩ (by simp -dsimp (maxDischargeDepth := 9) only [go_sem, Nat.reduceBEq, Nat.reduceLT, Nat.reduceAdd, Nat.reduceSub, Nat.reduceMul, Nat.reduceLeDiff, Int.reduceLE, Int.toNat_natCast, Int.natCast_nonneg, List.getElem?_map, List.length_map, Nat.zero_add, eq_self, Bool.not_true, Bool.not_false]; simp) (.refl _) ?_
    rintro ⟨k, acc⟩ G ⟨hk, hacc, hown⟩
    simp only at hk hacc hown
    have g1' := hacc.le b1 _ g1
    simp -dsimp (maxDischargeDepth := 9) only [go_sem, Nat.reduceBEq, Nat.reduceLT, Nat.reduceAdd, Nat.reduceSub, Nat.reduceMul, Nat.reduceLeDiff, Int.reduceLE, Int.toNat_natCast, Int.natCast_nonneg, List.getElem?_map, List.length_map, Nat.zero_add, eq_self, Bool.not_true, Bool.not_false]
    refine gif_split (fun h2 => ?_) (fun h2 => ?_)
    · have hkl : k < gs.length := by have := of_decide_eq_true h2; omega
      obtain ⟨x, hx⟩ : ∃ x, gs[k]? = some x := ⟨gs[k], List.getElem?_eq_getElem hkl⟩
      have hw : IntKind.i64.wrap ((k : Int) + 1) = ((k + 1 : Nat) : Int) := by rw [wrap_in (by omega) (by omega)]; omega
      have hmx : x ∈ gs := List.mem_of_getElem? hx
      obtain ⟨x1, x2, x3, x4, x5, x6, x7, x8, x9, x10, x11, x12, hdx⟩ := Gl.dopen x
      simp -dsimp (maxDischargeDepth := 9) only [go_sem, Nat.reduceBEq, Nat.reduceLT, Nat.reduceAdd, Nat.reduceSub, Nat.reduceMul, Nat.reduceLeDiff, Int.reduceLE, Int.toNat_natCast, Int.natCast_nonneg, List.getElem?_map, List.length_map, Nat.zero_add, eq_self, Bool.not_true, Bool.not_false, h2, hx]
      refine andK_split (by rw [hdx]; rfl) ?_
      simp -dsimp (maxDischargeDepth := 9) only [go_sem, Nat.reduceBEq, Nat.reduceLT, Nat.reduceAdd, Nat.reduceSub, Nat.reduceMul, Nat.reduceLeDiff, Int.reduceLE, Int.toNat_natCast, Int.natCast_nonneg, List.getElem?_map, List.length_map, Nat.zero_add, eq_self, Bool.not_true, Bool.not_false, hdx, D.cells]
      refine newK_intro (fun b7 hb7 hn7 hm7 => ?_)
      have e71 : eqn b1 b7 = false := hn7 b1 (by rw [g1']; rfl)
      simp -dsimp (maxDischargeDepth := 9) only [go_sem, Nat.reduceBEq, Nat.reduceLT, Nat.reduceAdd, Nat.reduceSub, Nat.reduceMul, Nat.reduceLeDiff, Int.reduceLE, Int.toNat_natCast, Int.natCast_nonneg, List.getElem?_map, List.length_map, Nat.zero_add, eq_self, Bool.not_true, Bool.not_false, e71, g1']
      rw [← hdx]
      rw [upd_upd]
      refine inner_ok gk x (Gl.oks_mem hgs x hmx) (hgz' x hmx) (ih x hmx) _ _ ?_
      simp -dsimp (maxDischargeDepth := 9) only [go_sem, Nat.reduceBEq, Nat.reduceLT, Nat.reduceAdd, Nat.reduceSub, Nat.reduceMul, Nat.reduceLeDiff, Int.reduceLE, Int.toNat_natCast, Int.natCast_nonneg, List.getElem?_map, List.length_map, Nat.zero_add, eq_self, Bool.not_true, Bool.not_false]
      refine newV_intro (fun b9 v9 hb9 hn9 hm9 hv9 => ?_)
      simp -dsimp (maxDischargeDepth := 9) only [go_sem, Nat.reduceBEq, Nat.reduceLT, Nat.reduceAdd, Nat.reduceSub, Nat.reduceMul, Nat.reduceLeDiff, Int.reduceLE, Int.toNat_natCast, Int.natCast_nonneg, List.getElem?_map, List.length_map, Nat.zero_add, eq_self, Bool.not_true, Bool.not_false]
      refine appTo_acc ((hacc.up hb7).up hb9) (by simp only [List.length_map, List.length_take, List.length_cons, List.length_nil]; omega) (fun a' G' hacc' => ?_)
      simp -dsimp (maxDischargeDepth := 9) only [go_sem, Nat.reduceBEq, Nat.reduceLT, Nat.reduceAdd, Nat.reduceSub, Nat.reduceMul, Nat.reduceLeDiff, Int.reduceLE, Int.toNat_natCast, Int.natCast_nonneg, List.getElem?_map, List.length_map, Nat.zero_add, eq_self, Bool.not_true, Bool.not_false, hw]
      refine roundQ_next (k + 1, a') _ ⟨by simp only; omega, ?_, acc_isOwn hacc' (by simp)⟩ (by simp only; omega) (by simp -dsimp (maxDischargeDepth := 9) only [go_sem, Nat.reduceBEq, Nat.reduceLT, Nat.reduceAdd, Nat.reduceSub, Nat.reduceMul, Nat.reduceLeDiff, Int.reduceLE, Int.toNat_natCast, Int.natCast_nonneg, List.getElem?_map, List.length_map, Nat.zero_add, eq_self, Bool.not_true, Bool.not_false]) (.refl _)
      simp only [take_snoc hx, List.map_append, List.map_cons, List.map_nil]
      exact hacc'
    have hkl : k = gs.length := by have := of_decide_eq_false h2; omega
    subst hkl
    obtain ⟨bo, vo, rfl⟩ := hown
    rw [List.take_length] at hacc
    obtain ⟨ho1, ho2⟩ := acc_at hacc
    obtain ⟨ws, hws⟩ : ∃ ws, ws = gs.map (Gl.rw gk) := ⟨_, rfl⟩
    have hwn : ws.length = gs.length := by rw [hws, List.length_map]
    have ho2 : G bo = some (.arr 9 1 vo (ws.map S)) := by rw [ho2, hws, List.map_map]; rfl
    have hleG : LeH H G := hle.trans hacc.le
    simp -dsimp (maxDischargeDepth := 9) only [go_sem, Nat.reduceBEq, Nat.reduceLT, Nat.reduceAdd, Nat.reduceSub, Nat.reduceMul, Nat.reduceLeDiff, Int.reduceLE, Int.toNat_natCast, Int.natCast_nonneg, List.getElem?_map, List.length_map, Nat.zero_add, eq_self, Bool.not_true, Bool.not_false, h2, ho2]
    refine (fun (rest : ∀ (s0 s1 : Str), s0 = ws.getD 0 [] → s1 = ws.getD 1 [] → (?T : Str → Str → Prop) s0 s1) => ?main) ?rest
    case main =>
      refine gif_split (fun h3 => ?_) (fun h3 => ?_)
      · have hn0 : 0 < ws.length := by have := of_decide_eq_true h3; omega
        simp -dsimp (maxDischargeDepth := 9) only [go_sem, Nat.reduceBEq, Nat.reduceLT, Nat.reduceAdd, Nat.reduceSub, Nat.reduceMul, Nat.reduceLeDiff, Int.reduceLE, Int.toNat_natCast, Int.natCast_nonneg, List.getElem?_map, List.length_map, Nat.zero_add, eq_self, Bool.not_true, Bool.not_false, h3, ho2]
        refine andK_split (by omega) ?_
        simp -dsimp (maxDischargeDepth := 9) only [go_sem, Nat.reduceBEq, Nat.reduceLT, Nat.reduceAdd, Nat.reduceSub, Nat.reduceMul, Nat.reduceLeDiff, Int.reduceLE, Int.toNat_natCast, Int.natCast_nonneg, List.getElem?_map, List.length_map, Nat.zero_add, eq_self, Bool.not_true, Bool.not_false, ho2, getD_S ws 0 hn0, Int.reduceToNat]
        refine gif_split (fun h4 => ?_) (fun h4 => ?_)
        · have hn1 : 1 < ws.length := by have := of_decide_eq_true h4; omega
          simp -dsimp (maxDischargeDepth := 9) only [go_sem, Nat.reduceBEq, Nat.reduceLT, Nat.reduceAdd, Nat.reduceSub, Nat.reduceMul, Nat.reduceLeDiff, Int.reduceLE, Int.toNat_natCast, Int.natCast_nonneg, List.getElem?_map, List.length_map, Nat.zero_add, eq_self, Bool.not_true, Bool.not_false, h4, ho2]
          refine andK_split (by omega) ?_
          simp -dsimp (maxDischargeDepth := 9) only [go_sem, Nat.reduceBEq, Nat.reduceLT, Nat.reduceAdd, Nat.reduceSub, Nat.reduceMul, Nat.reduceLeDiff, Int.reduceLE, Int.toNat_natCast, Int.natCast_nonneg, List.getElem?_map, List.length_map, Nat.zero_add, eq_self, Bool.not_true, Bool.not_false, ho2, getD_S ws 1 hn1, g1', Int.reduceToNat]
          generalize ws.getD 0 [] = s0 at rest ⊢
          generalize ws.getD 1 [] = s1 at rest ⊢
          exact rest s0 s1 rfl rfl
        · have hn1 : ws.length ≤ 1 := by have := of_decide_eq_false h4; omega
          simp -dsimp (maxDischargeDepth := 9) only [go_sem, Nat.reduceBEq, Nat.reduceLT, Nat.reduceAdd, Nat.reduceSub, Nat.reduceMul, Nat.reduceLeDiff, Int.reduceLE, Int.toNat_natCast, Int.natCast_nonneg, List.getElem?_map, List.length_map, Nat.zero_add, eq_self, Bool.not_true, Bool.not_false, h4, ho2, g1']
          exact rest (ws.getD 0 []) [] rfl (by simp [List.getD, hn1])
      · have hn0 : ws.length = 0 := by have := of_decide_eq_false h3; omega
        simp -dsimp (maxDischargeDepth := 9) only [go_sem, Nat.reduceBEq, Nat.reduceLT, Nat.reduceAdd, Nat.reduceSub, Nat.reduceMul, Nat.reduceLeDiff, Int.reduceLE, Int.toNat_natCast, Int.natCast_nonneg, List.getElem?_map, List.length_map, Nat.zero_add, eq_self, Bool.not_true, Bool.not_false, h3, ho2]
        refine gif_split (fun h4 => ?_) (fun h4 => ?_)
        · have := of_decide_eq_true h4; omega
        · simp -dsimp (maxDischargeDepth := 9) only [go_sem, Nat.reduceBEq, Nat.reduceLT, Nat.reduceAdd, Nat.reduceSub, Nat.reduceMul, Nat.reduceLeDiff, Int.reduceLE, Int.toNat_natCast, Int.natCast_nonneg, List.getElem?_map, List.length_map, Nat.zero_add, eq_self, Bool.not_true, Bool.not_false, h4, ho2, g1']
          exact rest [] [] (by simp [List.getD, hn0]) (by simp [List.getD, hn0])
    case rest =>
      rintro s0 s1 hs0 hs1
      refine gif_split (fun h1 => ?_) (fun h1 => ?_)
      · have hk : gk = 1 := of_decide_eq_true h1
        rw [if_pos hk] at hK
        simp -dsimp (maxDischargeDepth := 9) only [go_sem, Nat.reduceBEq, Nat.reduceLT, Nat.reduceAdd, Nat.reduceSub, Nat.reduceMul, Nat.reduceLeDiff, Int.reduceLE, Int.toNat_natCast, Int.natCast_nonneg, List.getElem?_map, List.length_map, Nat.zero_add, eq_self, Bool.not_true, Bool.not_false, h1]
        exact retW_drop hleG (retW_is hK)
      have k1 : ¬ gk = 1 := of_decide_eq_false h1
      rw [if_neg k1] at hK
      simp -dsimp (maxDischargeDepth := 9) only [go_sem, Nat.reduceBEq, Nat.reduceLT, Nat.reduceAdd, Nat.reduceSub, Nat.reduceMul, Nat.reduceLeDiff, Int.reduceLE, Int.toNat_natCast, Int.natCast_nonneg, List.getElem?_map, List.length_map, Nat.zero_add, eq_self, Bool.not_true, Bool.not_false, h1]
      refine gif_split (fun h1 => ?_) (fun h1 => ?_)
      · have hk : gk = 2 := of_decide_eq_true h1
        rw [if_pos hk] at hK
        simp -dsimp (maxDischargeDepth := 9) only [go_sem, Nat.reduceBEq, Nat.reduceLT, Nat.reduceAdd, Nat.reduceSub, Nat.reduceMul, Nat.reduceLeDiff, Int.reduceLE, Int.toNat_natCast, Int.natCast_nonneg, List.getElem?_map, List.length_map, Nat.zero_add, eq_self, Bool.not_true, Bool.not_false, h1]
        exact retW_drop hleG (retW_is hK)
      have k1 : ¬ gk = 2 := of_decide_eq_false h1
      rw [if_neg k1] at hK
      simp -dsimp (maxDischargeDepth := 9) only [go_sem, Nat.reduceBEq, Nat.reduceLT, Nat.reduceAdd, Nat.reduceSub, Nat.reduceMul, Nat.reduceLeDiff, Int.reduceLE, Int.toNat_natCast, Int.natCast_nonneg, List.getElem?_map, List.length_map, Nat.zero_add, eq_self, Bool.not_true, Bool.not_false, h1]
      refine gif_split (fun h1 => ?_) (fun h1 => ?_)
      · have hk : gk = 3 := of_decide_eq_true h1
        rw [if_pos hk] at hK
        simp -dsimp (maxDischargeDepth := 9) only [go_sem, Nat.reduceBEq, Nat.reduceLT, Nat.reduceAdd, Nat.reduceSub, Nat.reduceMul, Nat.reduceLeDiff, Int.reduceLE, Int.toNat_natCast, Int.natCast_nonneg, List.getElem?_map, List.length_map, Nat.zero_add, eq_self, Bool.not_true, Bool.not_false, h1, g1']
        rw [← hda]
        refine rterm_ok _ hoa has _ _ ?_
        simp -dsimp (maxDischargeDepth := 9) only [go_sem, Nat.reduceBEq, Nat.reduceLT, Nat.reduceAdd, Nat.reduceSub, Nat.reduceMul, Nat.reduceLeDiff, Int.reduceLE, Int.toNat_natCast, Int.natCast_nonneg, List.getElem?_map, List.length_map, Nat.zero_add, eq_self, Bool.not_true, Bool.not_false, hda, hdb, g1']
        refine andK_split (by simp only [List.size_toArray, List.length_cons, List.length_nil, List.length_append]; omega) ?_
        simp -dsimp (maxDischargeDepth := 9) only [go_sem, Nat.reduceBEq, Nat.reduceLT, Nat.reduceAdd, Nat.reduceSub, Nat.reduceMul, Nat.reduceLeDiff, Int.reduceLE, Int.toNat_natCast, Int.natCast_nonneg, List.getElem?_map, List.length_map, Nat.zero_add, eq_self, Bool.not_true, Bool.not_false, app_mk]
        rw [← hdb]
        refine rterm_ok _ hob hbs _ _ ?_
        simp -dsimp (maxDischargeDepth := 9) only [go_sem, Nat.reduceBEq, Nat.reduceLT, Nat.reduceAdd, Nat.reduceSub, Nat.reduceMul, Nat.reduceLeDiff, Int.reduceLE, Int.toNat_natCast, Int.natCast_nonneg, List.getElem?_map, List.length_map, Nat.zero_add, eq_self, Bool.not_true, Bool.not_false, hda, hdb, g1']
        refine andK_split (by simp only [List.size_toArray, List.length_cons, List.length_nil, List.length_append]; omega) ?_
        simp -dsimp (maxDischargeDepth := 9) only [go_sem, Nat.reduceBEq, Nat.reduceLT, Nat.reduceAdd, Nat.reduceSub, Nat.reduceMul, Nat.reduceLeDiff, Int.reduceLE, Int.toNat_natCast, Int.natCast_nonneg, List.getElem?_map, List.length_map, Nat.zero_add, eq_self, Bool.not_true, Bool.not_false, app_mk]
        exact retW_drop hleG (retW_is hK)
      have k1 : ¬ gk = 3 := of_decide_eq_false h1
      rw [if_neg k1] at hK
      simp -dsimp (maxDischargeDepth := 9) only [go_sem, Nat.reduceBEq, Nat.reduceLT, Nat.reduceAdd, Nat.reduceSub, Nat.reduceMul, Nat.reduceLeDiff, Int.reduceLE, Int.toNat_natCast, Int.natCast_nonneg, List.getElem?_map, List.length_map, Nat.zero_add, eq_self, Bool.not_true, Bool.not_false, h1]
      refine gif_split (fun h1 => ?_) (fun h1 => ?_)
      · have hk : gk = 4 := of_decide_eq_true h1
        rw [if_pos hk] at hK
        simp -dsimp (maxDischargeDepth := 9) only [go_sem, Nat.reduceBEq, Nat.reduceLT, Nat.reduceAdd, Nat.reduceSub, Nat.reduceMul, Nat.reduceLeDiff, Int.reduceLE, Int.toNat_natCast, Int.natCast_nonneg, List.getElem?_map, List.length_map, Nat.zero_add, eq_self, Bool.not_true, Bool.not_false, h1, g1']
        refine rterms_ok _ ga hga (fun t ht' G K hK => rterm_ok t (hgo t ht') (hgsub t ht') G K hK) _ ?_
        simp -dsimp (maxDischargeDepth := 9) only [go_sem, Nat.reduceBEq, Nat.reduceLT, Nat.reduceAdd, Nat.reduceSub, Nat.reduceMul, Nat.reduceLeDiff, Int.reduceLE, Int.toNat_natCast, Int.natCast_nonneg, List.getElem?_map, List.length_map, Nat.zero_add, eq_self, Bool.not_true, Bool.not_false, g1']
        refine rrow_ok _ (by omega) _ _ ?_
        simp -dsimp (maxDischargeDepth := 9) only [go_sem, Nat.reduceBEq, Nat.reduceLT, Nat.reduceAdd, Nat.reduceSub, Nat.reduceMul, Nat.reduceLeDiff, Int.reduceLE, Int.toNat_natCast, Int.natCast_nonneg, List.getElem?_map, List.length_map, Nat.zero_add, eq_self, Bool.not_true, Bool.not_false, g1']
        refine andK_split (by simp only [List.size_toArray, List.length_cons, List.length_nil, List.length_append]; omega) ?_
        simp -dsimp (maxDischargeDepth := 9) only [go_sem, Nat.reduceBEq, Nat.reduceLT, Nat.reduceAdd, Nat.reduceSub, Nat.reduceMul, Nat.reduceLeDiff, Int.reduceLE, Int.toNat_natCast, Int.natCast_nonneg, List.getElem?_map, List.length_map, Nat.zero_add, eq_self, Bool.not_true, Bool.not_false, app_mk]
        exact retW_drop hleG (retW_is hK)
      have k1 : ¬ gk = 4 := of_decide_eq_false h1
      rw [if_neg k1] at hK
      simp -dsimp (maxDischargeDepth := 9) only [go_sem, Nat.reduceBEq, Nat.reduceLT, Nat.reduceAdd, Nat.reduceSub, Nat.reduceMul, Nat.reduceLeDiff, Int.reduceLE, Int.toNat_natCast, Int.natCast_nonneg, List.getElem?_map, List.length_map, Nat.zero_add, eq_self, Bool.not_true, Bool.not_false, h1]
      refine gif_split (fun h1 => ?_) (fun h1 => ?_)
      · have hk : gk = 5 := of_decide_eq_true h1
        rw [if_pos hk] at hK
        have e : ws = Gl.ws gk gs := by rw [hws]; exact Gl.rw_w (.inl hk) gs
        rw [← e] at hK hwl
        simp -dsimp (maxDischargeDepth := 9) only [go_sem, Nat.reduceBEq, Nat.reduceLT, Nat.reduceAdd, Nat.reduceSub, Nat.reduceMul, Nat.reduceLeDiff, Int.reduceLE, Int.toNat_natCast, Int.natCast_nonneg, List.getElem?_map, List.length_map, Nat.zero_add, eq_self, Bool.not_true, Bool.not_false, h1]
        refine ACall.frz [true, false] ?_
        simp -dsimp (maxDischargeDepth := 9) only [go_sem, Nat.reduceBEq, Nat.reduceLT, Nat.reduceAdd, Nat.reduceSub, Nat.reduceMul, Nat.reduceLeDiff, Int.reduceLE, Int.toNat_natCast, Int.natCast_nonneg, List.getElem?_map, List.length_map, Nat.zero_add, eq_self, Bool.not_true, Bool.not_false, ho2]
        refine rjoin_ok ws [44, 32] (by decide) (by omega) _ _ ?_
        simp -dsimp (maxDischargeDepth := 9) only [go_sem, Nat.reduceBEq, Nat.reduceLT, Nat.reduceAdd, Nat.reduceSub, Nat.reduceMul, Nat.reduceLeDiff, Int.reduceLE, Int.toNat_natCast, Int.natCast_nonneg, List.getElem?_map, List.length_map, Nat.zero_add, eq_self, Bool.not_true, Bool.not_false]
        exact retW_drop (leH_upd (hle.free ho1) hleG) (retW_is hK)
      have k1 : ¬ gk = 5 := of_decide_eq_false h1
      rw [if_neg k1] at hK
      simp -dsimp (maxDischargeDepth := 9) only [go_sem, Nat.reduceBEq, Nat.reduceLT, Nat.reduceAdd, Nat.reduceSub, Nat.reduceMul, Nat.reduceLeDiff, Int.reduceLE, Int.toNat_natCast, Int.natCast_nonneg, List.getElem?_map, List.length_map, Nat.zero_add, eq_self, Bool.not_true, Bool.not_false, h1]
      refine gif_split (fun h1 => ?_) (fun h1 => ?_)
      · have hk : gk = 6 := of_decide_eq_true h1
        rw [if_pos hk] at hK
        have e : ws = Gl.ws gk gs := by rw [hws]; exact Gl.rw_w (.inr (.inl hk)) gs
        rw [← e] at hK hwl
        simp -dsimp (maxDischargeDepth := 9) only [go_sem, Nat.reduceBEq, Nat.reduceLT, Nat.reduceAdd, Nat.reduceSub, Nat.reduceMul, Nat.reduceLeDiff, Int.reduceLE, Int.toNat_natCast, Int.natCast_nonneg, List.getElem?_map, List.length_map, Nat.zero_add, eq_self, Bool.not_true, Bool.not_false, h1]
        refine ACall.frz [true, false] ?_
        simp -dsimp (maxDischargeDepth := 9) only [go_sem, Nat.reduceBEq, Nat.reduceLT, Nat.reduceAdd, Nat.reduceSub, Nat.reduceMul, Nat.reduceLeDiff, Int.reduceLE, Int.toNat_natCast, Int.natCast_nonneg, List.getElem?_map, List.length_map, Nat.zero_add, eq_self, Bool.not_true, Bool.not_false, ho2]
        refine rjoin_ok ws [32, 59, 32] (by decide) (by omega) _ _ ?_
        simp -dsimp (maxDischargeDepth := 9) only [go_sem, Nat.reduceBEq, Nat.reduceLT, Nat.reduceAdd, Nat.reduceSub, Nat.reduceMul, Nat.reduceLeDiff, Int.reduceLE, Int.toNat_natCast, Int.natCast_nonneg, List.getElem?_map, List.length_map, Nat.zero_add, eq_self, Bool.not_true, Bool.not_false]
        exact retW_drop (leH_upd (hle.free ho1) hleG) (retW_is hK)
      have k1 : ¬ gk = 6 := of_decide_eq_false h1
      rw [if_neg k1] at hK
      simp -dsimp (maxDischargeDepth := 9) only [go_sem, Nat.reduceBEq, Nat.reduceLT, Nat.reduceAdd, Nat.reduceSub, Nat.reduceMul, Nat.reduceLeDiff, Int.reduceLE, Int.toNat_natCast, Int.natCast_nonneg, List.getElem?_map, List.length_map, Nat.zero_add, eq_self, Bool.not_true, Bool.not_false, h1]
      refine gif_split (fun h1 => ?_) (fun h1 => ?_)
      · have hk : gk = 7 := of_decide_eq_true h1
        rw [if_pos hk] at hK
        have e : ws = Gl.ws gk gs := by rw [hws]; exact Gl.rw_w (.inr (.inr (.inl hk))) gs
        rw [← e, ← hs0] at hK
        rw [← e, ← hs0] at hw2
        rw [← e] at hwl
        simp -dsimp (maxDischargeDepth := 9) only [go_sem, Nat.reduceBEq, Nat.reduceLT, Nat.reduceAdd, Nat.reduceSub, Nat.reduceMul, Nat.reduceLeDiff, Int.reduceLE, Int.toNat_natCast, Int.natCast_nonneg, List.getElem?_map, List.length_map, Nat.zero_add, eq_self, Bool.not_true, Bool.not_false, h1]
        refine andK_split (by simp only [List.size_toArray, List.length_cons, List.length_nil, List.length_append]; omega) ?_
        simp -dsimp (maxDischargeDepth := 9) only [go_sem, Nat.reduceBEq, Nat.reduceLT, Nat.reduceAdd, Nat.reduceSub, Nat.reduceMul, Nat.reduceLeDiff, Int.reduceLE, Int.toNat_natCast, Int.natCast_nonneg, List.getElem?_map, List.length_map, Nat.zero_add, eq_self, Bool.not_true, Bool.not_false, app_mk]
        exact retW_drop hleG (retW_is hK)
      have k1 : ¬ gk = 7 := of_decide_eq_false h1
      rw [if_neg k1] at hK
      simp -dsimp (maxDischargeDepth := 9) only [go_sem, Nat.reduceBEq, Nat.reduceLT, Nat.reduceAdd, Nat.reduceSub, Nat.reduceMul, Nat.reduceLeDiff, Int.reduceLE, Int.toNat_natCast, Int.natCast_nonneg, List.getElem?_map, List.length_map, Nat.zero_add, eq_self, Bool.not_true, Bool.not_false, h1]
      refine gif_split (fun h1 => ?_) (fun h1 => ?_)
      · have hk : gk = 8 := of_decide_eq_true h1
        rw [if_pos hk] at hK
        simp -dsimp (maxDischargeDepth := 9) only [go_sem, Nat.reduceBEq, Nat.reduceLT, Nat.reduceAdd, Nat.reduceSub, Nat.reduceMul, Nat.reduceLeDiff, Int.reduceLE, Int.toNat_natCast, Int.natCast_nonneg, List.getElem?_map, List.length_map, Nat.zero_add, eq_self, Bool.not_true, Bool.not_false, h1, g1']
        rw [← hda]
        refine rterm_ok _ hoa has _ _ ?_
        simp -dsimp (maxDischargeDepth := 9) only [go_sem, Nat.reduceBEq, Nat.reduceLT, Nat.reduceAdd, Nat.reduceSub, Nat.reduceMul, Nat.reduceLeDiff, Int.reduceLE, Int.toNat_natCast, Int.natCast_nonneg, List.getElem?_map, List.length_map, Nat.zero_add, eq_self, Bool.not_true, Bool.not_false]
        refine andK_split (by simp only [List.size_toArray, List.length_cons, List.length_nil, List.length_append]; omega) ?_
        simp -dsimp (maxDischargeDepth := 9) only [go_sem, Nat.reduceBEq, Nat.reduceLT, Nat.reduceAdd, Nat.reduceSub, Nat.reduceMul, Nat.reduceLeDiff, Int.reduceLE, Int.toNat_natCast, Int.natCast_nonneg, List.getElem?_map, List.length_map, Nat.zero_add, eq_self, Bool.not_true, Bool.not_false, app_mk]
        exact retW_drop hleG (retW_is hK)
      have k1 : ¬ gk = 8 := of_decide_eq_false h1
      rw [if_neg k1] at hK
      simp -dsimp (maxDischargeDepth := 9) only [go_sem, Nat.reduceBEq, Nat.reduceLT, Nat.reduceAdd, Nat.reduceSub, Nat.reduceMul, Nat.reduceLeDiff, Int.reduceLE, Int.toNat_natCast, Int.natCast_nonneg, List.getElem?_map, List.length_map, Nat.zero_add, eq_self, Bool.not_true, Bool.not_false, h1]
      refine gif_split (fun h1 => ?_) (fun h1 => ?_)
      · have hk : gk = 9 := of_decide_eq_true h1
        rw [if_pos hk] at hK
        have e : ws = Gl.ws gk gs := by rw [hws]; exact Gl.rw_w (.inr (.inr (.inr hk))) gs
        rw [← e, ← hs0, ← hs1] at hK
        rw [← e, ← hs0, ← hs1] at hw2
        rw [← e] at hwl
        simp -dsimp (maxDischargeDepth := 9) only [go_sem, Nat.reduceBEq, Nat.reduceLT, Nat.reduceAdd, Nat.reduceSub, Nat.reduceMul, Nat.reduceLeDiff, Int.reduceLE, Int.toNat_natCast, Int.natCast_nonneg, List.getElem?_map, List.length_map, Nat.zero_add, eq_self, Bool.not_true, Bool.not_false, h1, g1']
        refine andK_split (by simp only [List.size_toArray, List.length_cons, List.length_nil, List.length_append]; omega) ?_
        simp -dsimp (maxDischargeDepth := 9) only [go_sem, Nat.reduceBEq, Nat.reduceLT, Nat.reduceAdd, Nat.reduceSub, Nat.reduceMul, Nat.reduceLeDiff, Int.reduceLE, Int.toNat_natCast, Int.natCast_nonneg, List.getElem?_map, List.length_map, Nat.zero_add, eq_self, Bool.not_true, Bool.not_false, app_mk]
        refine andK_split (by simp only [List.size_toArray, List.length_cons, List.length_nil, List.length_append]; omega) ?_
        simp -dsimp (maxDischargeDepth := 9) only [go_sem, Nat.reduceBEq, Nat.reduceLT, Nat.reduceAdd, Nat.reduceSub, Nat.reduceMul, Nat.reduceLeDiff, Int.reduceLE, Int.toNat_natCast, Int.natCast_nonneg, List.getElem?_map, List.length_map, Nat.zero_add, eq_self, Bool.not_true, Bool.not_false, app_mk]
        simp -dsimp (maxDischargeDepth := 9) only [go_sem, Nat.reduceBEq, Nat.reduceLT, Nat.reduceAdd, Nat.reduceSub, Nat.reduceMul, Nat.reduceLeDiff, Int.reduceLE, Int.toNat_natCast, Int.natCast_nonneg, List.getElem?_map, List.length_map, Nat.zero_add, eq_self, Bool.not_true, Bool.not_false, g1']
        refine andK_split (by simp only [List.size_toArray, List.length_cons, List.length_nil, List.length_append]; omega) ?_
        simp -dsimp (maxDischargeDepth := 9) only [go_sem, Nat.reduceBEq, Nat.reduceLT, Nat.reduceAdd, Nat.reduceSub, Nat.reduceMul, Nat.reduceLeDiff, Int.reduceLE, Int.toNat_natCast, Int.natCast_nonneg, List.getElem?_map, List.length_map, Nat.zero_add, eq_self, Bool.not_true, Bool.not_false, app_mk]
        refine andK_split (by simp only [List.size_toArray, List.length_cons, List.length_nil, List.length_append]; omega) ?_
        simp -dsimp (maxDischargeDepth := 9) only [go_sem, Nat.reduceBEq, Nat.reduceLT, Nat.reduceAdd, Nat.reduceSub, Nat.reduceMul, Nat.reduceLeDiff, Int.reduceLE, Int.toNat_natCast, Int.natCast_nonneg, List.getElem?_map, List.length_map, Nat.zero_add, eq_self, Bool.not_true, Bool.not_false, app_mk]
        refine andK_split (by simp only [List.size_toArray, List.length_cons, List.length_nil, List.length_append]; omega) ?_
        simp -dsimp (maxDischargeDepth := 9) only [go_sem, Nat.reduceBEq, Nat.reduceLT, Nat.reduceAdd, Nat.reduceSub, Nat.reduceMul, Nat.reduceLeDiff, Int.reduceLE, Int.toNat_natCast, Int.natCast_nonneg, List.getElem?_map, List.length_map, Nat.zero_add, eq_self, Bool.not_true, Bool.not_false, app_mk]
        exact retW_drop hleG (retW_is hK)
      have k1 : ¬ gk = 9 := of_decide_eq_false h1
      rw [if_neg k1] at hK
      simp -dsimp (maxDischargeDepth := 9) only [go_sem, Nat.reduceBEq, Nat.reduceLT, Nat.reduceAdd, Nat.reduceSub, Nat.reduceMul, Nat.reduceLeDiff, Int.reduceLE, Int.toNat_natCast, Int.natCast_nonneg, List.getElem?_map, List.length_map, Nat.zero_add, eq_self, Bool.not_true, Bool.not_false, h1]
      exact retW_drop hleG (retW_is hK)
termination_by g => SizeOf.sizeOf g
decreasing_by
  all_goals (
    have := List.sizeOf_lt_of_mem hg'
    simp
    omega)
end Go.Aug
