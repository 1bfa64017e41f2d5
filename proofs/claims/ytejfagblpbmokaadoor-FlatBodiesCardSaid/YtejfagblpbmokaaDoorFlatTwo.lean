/- The contracts of flat: goals, clauses, Flatten; conditions stand in each contract. -/
import Derived.Test.YtejfagblpbmokaaDoorFlatOne
set_option linter.all false
set_option linter.unusedVariables false
set_option linter.unusedSimpArgs false
set_option linter.unusedSectionVars false

/- Flat goals: a goal. -/
namespace Go.Aug
open Nat renaming reduceBEq → zA, reduceLT → zB, reduceAdd → zC, reduceSub → zD, reduceMul → zE, reduceLeDiff → zF
open Int renaming reduceLE → zG
open Go.Proofs
set_option maxRecDepth 100000
set_option linter.unusedSimpArgs false
attribute [local irreducible] hid andK letA onSome onVar onArr arrOnly onInt onBool onFunc onTup idxA ldV ldD addO appTo fillL slA srcK nilQ retW gif sgd sguard svc sops sdops sagain aopO aLoad aStore aBin aUn aConv aLen aIndexAddr aIndex aIndexAddrS aIndexS aSlice aAppend aBuild aBuildSlice aMakeSlice aField aFieldOf aCallOp deepK deepL frzM putE newK newV growV ACall roundQ thenQ inBlockQ sret cnd szs nilC onMap onRow aLookup aMapUpdate aMakeMap
attribute [local go_sem] Int.natCast_zero
set_option maxHeartbeats 8000000 in
theorem goalF_ok {eb : EbG} : ∀ (m : Nat) (g : Gl), _root_.SizeOf.sizeOf g ≤ m → g.small → GoalC eb g
 | 0, .mk k a b n xs gs, hm, _ => by simp at hm
 | m + 1, .mk k (.mk k1 n1 i1 xs1) (.mk k2 n2 i2 xs2) n xs gs, hm, hs => by
  have ih : ∀ g ∈ gs, GoalC eb g := fun g hg => goalF_ok m g (by have := List.sizeOf_lt_of_mem hg; simp only [Gl.mk.sizeOf_spec] at hm; omega) (by simp only [Gl.small] at hs; exact Gl.smalls_mem hs.2.2.2.2.2 g hg)
  simp only [Gl.small] at hs
  obtain ⟨hsa, hsb, hxl, hsx, hgl, -⟩ := hs
  intro H r bm s h hlim K hK
  have hne := h.ne
  have hfew := h.few
  simp only [nset_is hne.2] at hK
  simp only [Gl.nodes] at hlim
  have hpa := (Tm.mk k1 n1 i1 xs1).nodes_pos
  have hpb := (Tm.mk k2 n2 i2 xs2).nodes_pos
  refine ACall.nin h ?_
  refine ACall.by mixed fn48 (by simp) ?_
  conv in s48 => cbv
  refine svc_start ?_
  simp -dsimp (maxDischargeDepth := 9) only [go_sem, zA, zB, zC, zD, zE, zF, zG, gS, Gl.d, Gl.cs, Tm.cs, List.cons_append, List.nil_append, Gl.ds_map]
  refine newK_hp (fun b3 f3 => ?_)
  simp only [off_cons, off_nil] at f3
  simp -dsimp (maxDischargeDepth := 9) only [go_sem, zA, zB, zC, zD, zE, zF, zG, gS, hne, f3]
  refine gif_split (fun g1 => ?_) (fun g1 => ?_)
  ·have e : k = 2 := of_decide_eq_true g1
   have hg : ngoal (.mk k (.mk k1 n1 i1 xs1) (.mk k2 n2 i2 xs2) n xs gs) s = ([fRow 2 0 []], s) := by rw [e]; simp [ngoal]
   rw [hg] at hK
   simp -dsimp (maxDischargeDepth := 9) only [go_sem, zA, zB, zC, zD, zE, zF, zG, gS, g1, hne, f3]
   simp only [List.map_cons, List.map_nil] at hK
   refine newV_hp (fun b22 v22 f22 w22 => ?_)
   simp only [off_cons, off_nil] at f22
   simp -dsimp (maxDischargeDepth := 9) only [go_sem, zA, zB, zC, zD, zE, zF, zG, gS, hne, f3, f22]
   refine retW_drop (G := hp H [(r, nvar s bm), (bm, nmap s), (b22, .arr 39 10 v22 [(fRow 2 0 []).d])]) (leH_hp (by simp only [hpS, eq_self, implies_true, hne, f3, f22, fRow_d, List.map_nil]) (by simp only [hpS, eq_self, implies_true, hne, f3, f22, fRow_d, List.map_nil])) (retW_is ?_)
   exact row_new hK (by simp only [hpS, eq_self, implies_true, hne]) (show off H [(r, nvar s bm), (bm, nmap s)] b22 by simp only [hpS, eq_self, implies_true, f22]) w22
  simp -dsimp (maxDischargeDepth := 9) only [go_sem, zA, zB, zC, zD, zE, zF, zG, gS, g1, hne, f3]
  refine gif_split (fun g2 => ?_) (fun g2 => ?_)
  ·have e : k = 3 := of_decide_eq_true g2
   have hg : ngoal (.mk k (.mk k1 n1 i1 xs1) (.mk k2 n2 i2 xs2) n xs gs) s = nequal (.mk k1 n1 i1 xs1) (.mk k2 n2 i2 xs2) s := by rw [e]; simp [ngoal]
   rw [hg] at hK
   simp -dsimp (maxDischargeDepth := 9) only [go_sem, zA, zB, zC, zD, zE, zF, zG, gS, g2, hne, f3]
   refine equal_ok (.mk k1 n1 i1 xs1) (.mk k2 n2 i2 xs2) hsa hsb _ r bm s ⟨by simp only [hpS, eq_self, implies_true, hne, f3], by simp only [hpS, eq_self, implies_true, hne, f3], hne, hfew⟩ (by omega) _ (fun a' hrow => ?_)
   generalize hu : nequal (.mk k1 n1 i1 xs1) (.mk k2 n2 i2 xs2) s = u at hK hrow ⊢
   obtain ⟨rows, s3⟩ := u
   simp only at hK hrow
   simp -dsimp (maxDischargeDepth := 9) only [go_sem, zA, zB, zC, zD, zE, zF, zG, gS, hne, f3]
   obtain ⟨hacc', hw', hn'⟩ := (AccN.none H [r, bm]).take (E := 39) (sz := 10) (l := [(r, nvar s bm), (bm, nmap s), (b3, .var [.d (.int .i64 k), .d (.int .i64 k1), .d (.str n1), .d (.int .i64 i1), .d (.slice (Tm.ds xs1)), .d (.int .i64 k2), .d (.str n2), .d (.int .i64 i2), .d (.slice (Tm.ds xs2)), .d (.str n), .d (.slice (xs.map Tm.d)), .d (.slice (gs.map Gl.d))])]) (by simp only [hpS, eq_self, implies_true, hne]) hrow
   rw [hw' [(r, nvar s3 bm), (bm, nmap s3), (b3, .var [.d (.int .i64 k), .d (.int .i64 k1), .d (.str n1), .d (.int .i64 i1), .d (.slice (Tm.ds xs1)), .d (.int .i64 k2), .d (.str n2), .d (.int .i64 i2), .d (.slice (Tm.ds xs2)), .d (.str n), .d (.slice (xs.map Tm.d)), .d (.slice (gs.map Gl.d))])] (fun _ h => h)]
   have f3' := hn' b3 (by simp only [hpS, eq_self, implies_true, hne, f3]) f3.2.2.2.2
   exact retW_rowX hacc' (by simp only [hpS, eq_self, implies_true, hne, f3, f3']) (l1 := [(r, nvar s3 bm), (bm, nmap s3)]) (by simp only [hpS, eq_self, implies_true, hne, f3]) (by simp only [hpS, eq_self, implies_true, hne, f3]) (fun hr => hK _ hr)
  simp -dsimp (maxDischargeDepth := 9) only [go_sem, zA, zB, zC, zD, zE, zF, zG, gS, g2, hne, f3]
  refine gif_split (fun g3 => ?_) (fun g3 => ?_)
  ·have e : k = 4 := of_decide_eq_true g3
   have hg : ngoal (.mk k (.mk k1 n1 i1 xs1) (.mk k2 n2 i2 xs2) n xs gs) s = ((nplaces xs s).2.1 ++ [fCall ⟨n, xs.length⟩ (nplaces xs s).1], (nplaces xs s).2.2) := by rw [e]; simp [ngoal]
   rw [hg] at hK
   simp -dsimp (maxDischargeDepth := 9) only [go_sem, zA, zB, zC, zD, zE, zF, zG, gS, g3, hne, f3]
   refine andK_split (by omega) ?_
   simp -dsimp (maxDischargeDepth := 9) only [go_sem, zA, zB, zC, zD, zE, zF, zG, gS, hne, f3]
   refine newV_hp (fun b6 v6 f6 w6 => ?_)
   simp only [off_cons, off_nil] at f6
   simp -dsimp (maxDischargeDepth := 9) only [go_sem, zA, zB, zC, zD, zE, zF, zG, gS, hne, f3, f6]
   refine svc_loop (X := Nat × List Nat × List Fl × NS × A × Heap) (fun y => [(0, .ref r 0), (3, .ref b3 0), (5, y.2.2.2.2.1), (6, .own b6 v6), (38, .d (.slice (xs.map Tm.d))), (39, .d (.int .i64 xs.length)), (40, .d (.int .i64 y.1))])
    (fun y G => G = hp y.2.2.2.2.2 [(r, nvar y.2.2.2.1 bm), (bm, nmap y.2.2.2.1), (b3, .var [.d (.int .i64 k), .d (.int .i64 k1), .d (.str n1), .d (.int .i64 i1), .d (.slice (Tm.ds xs1)), .d (.int .i64 k2), .d (.str n2), .d (.int .i64 i2), .d (.slice (Tm.ds xs2)), .d (.str n), .d (.slice (xs.map Tm.d)), .d (.slice (gs.map Gl.d))]), (b6, .arr 3 1 v6 (y.2.1.map (fun (v : Nat) => D.int .i64 (v : Int)) ++ List.replicate (xs.length - y.1) (D.int .i64 0)))] ∧ AccN H [r, bm] [pcF y.2.2.1 y.2.2.2.2.1] y.2.2.2.2.2 ∧ y.2.2.2.2.2 b3 = none ∧ y.2.2.2.2.2 b6 = none ∧ y.2.1.length = y.1 ∧ y.1 ≤ xs.length ∧ (y.2.1 ++ (nplaces (xs.drop y.1) y.2.2.2.1).1, y.2.2.1 ++ (nplaces (xs.drop y.1) y.2.2.2.1).2.1, (nplaces (xs.drop y.1) y.2.2.2.1).2.2) = nplaces xs s ∧ y.2.2.2.1.next + Tm.nodess (xs.drop y.1) ≤ s.next + Tm.nodess xs ∧ y.2.2.1.length + Tm.nodess (xs.drop y.1) ≤ Tm.nodess xs)
    (fun y => xs.length - y.1) (0, [], [], s, .nils, H) _ ⟨rfl, (AccN.none H [r, bm]).nil _ _, f3.2.2.2.2, f6.2.2.2.2.2.2, rfl, by simp, by simp, by simp, by simp⟩ (by simp -dsimp (maxDischargeDepth := 9) only [go_sem, zA, zB, zC, zD, zE, zF, zG, gS]) (leH_hp (by simp only [hpS, eq_self, implies_true, hne, f3, f6, List.map_nil, List.nil_append, Nat.sub_zero]) (by simp only [hpS, eq_self, implies_true, hne, f3, f6, List.map_nil, List.nil_append, Nat.sub_zero])) ?_
   rintro ⟨j, vs, out, s1, a, R⟩ G ⟨hG, hacc, f3', f6', hvl, hj, hrun, hnx, hout⟩
   simp only at hG hacc f3' f6' hvl hj hrun hnx hout
   subst hG
   have hxn := Tm.nodess_length xs
   simp -dsimp (maxDischargeDepth := 9) only [go_sem, zA, zB, zC, zD, zE, zF, zG, gS]
   refine gif_split (fun q1 => ?_) (fun q1 => ?_)
   ·have q1' : j < xs.length := by have := of_decide_eq_true q1; omega
    obtain ⟨⟨tk, tn, ti, ta⟩, hx⟩ := list_at q1'
    have hwj := wrapN (k := j) (by omega)
    have hst : Tm.small (.mk tk tn ti ta) := Tm.smalls_mem hsx _ (List.mem_of_getElem? hx)
    rw [drop_at hx] at hrun hnx hout
    simp only [nplaces, Tm.nodess] at hrun hnx hout
    obtain ⟨d, hd⟩ : ∃ d, xs.length - j = d + 1 := ⟨xs.length - j - 1, by omega⟩
    rw [hd]
    have hd1 : xs.length - (j + 1) = d := by omega
    have hset : ∀ m : Nat, (vs.map (fun (v : Nat) => D.int .i64 (v : Int)) ++ List.replicate (d + 1) (D.int .i64 0)).set j (.int .i64 (m : Int)) = (vs ++ [m]).map (fun (v : Nat) => D.int .i64 (v : Int)) ++ List.replicate d (D.int .i64 0) := fun m => by rw [← hvl]; exact set_nums vs d m
    have hget : (vs.map (fun (v : Nat) => D.int .i64 (v : Int)) ++ List.replicate (d + 1) (D.int .i64 0))[j]? = some (D.int .i64 0) := by
     rw [List.getElem?_append_right (by simp [hvl]), List.length_map, hvl, Nat.sub_self]; rfl
    simp -dsimp (maxDischargeDepth := 9) only [go_sem, zA, zB, zC, zD, zE, zF, zG, gS, q1, hx, Tm.d, Tm.cs, f3, f6, f3', f6', hne]
    refine newK_hp (fun b8 f8 => ?_)
    simp only [off_cons, off_nil] at f8
    simp -dsimp (maxDischargeDepth := 9) only [go_sem, zA, zB, zC, zD, zE, zF, zG, gS, hne, f3, f6, f3', f6', f8]
    have hps := nplace_size (.mk tk tn ti ta) s1
    refine place_ok (.mk tk tn ti ta) hst _ r bm s1 ⟨by simp only [hpS, eq_self, implies_true, hne, f3, f6, f3', f6', f8], by simp only [hpS, eq_self, implies_true, hne, f3, f6, f3', f6', f8], hne, by omega⟩ (by omega) _ (fun a' hrow => ?_)
    generalize hu : nplace (.mk tk tn ti ta) s1 = u at hrun hrow hps ⊢
    obtain ⟨pv, rows, s3⟩ := u
    simp only at hrun hrow hps
    simp -dsimp (maxDischargeDepth := 9) only [go_sem, zA, zB, zC, zD, zE, zF, zG, gS, hne, f3, f6, f3', f6', f8]
    obtain ⟨hacc', hw', hn'⟩ := hacc.take (E := 39) (sz := 10) (l := [(r, nvar s1 bm), (bm, nmap s1), (b3, .var [.d (.int .i64 k), .d (.int .i64 k1), .d (.str n1), .d (.int .i64 i1), .d (.slice (Tm.ds xs1)), .d (.int .i64 k2), .d (.str n2), .d (.int .i64 i2), .d (.slice (Tm.ds xs2)), .d (.str n), .d (.slice (xs.map Tm.d)), .d (.slice (gs.map Gl.d))]), (b6, .arr 3 1 v6 (vs.map (fun (v : Nat) => D.int .i64 (v : Int)) ++ List.replicate (d+1) (D.int .i64 0))), (b8, .var [.d (.int .i64 tk), .d (.str tn), .d (.int .i64 ti), .d (.slice (Tm.ds ta))])]) (by simp only [hpS, eq_self, implies_true, hne]) hrow
    rw [hw' [(r, nvar s3 bm), (bm, nmap s3), (b3, .var [.d (.int .i64 k), .d (.int .i64 k1), .d (.str n1), .d (.int .i64 i1), .d (.slice (Tm.ds xs1)), .d (.int .i64 k2), .d (.str n2), .d (.int .i64 i2), .d (.slice (Tm.ds xs2)), .d (.str n), .d (.slice (xs.map Tm.d)), .d (.slice (gs.map Gl.d))]), (b6, .arr 3 1 v6 (vs.map (fun (v : Nat) => D.int .i64 (v : Int)) ++ List.replicate (d+1) (D.int .i64 0))), (b8, .var [.d (.int .i64 tk), .d (.str tn), .d (.int .i64 ti), .d (.slice (Tm.ds ta))])] (fun _ h => h)]
    have f34 := hn' b3 (by simp only [hpS, eq_self, implies_true, hne, f3, f6, f3', f6', f8]) f3'
    have f64 := hn' b6 (by simp only [hpS, eq_self, implies_true, hne, f3, f6, f3', f6', f8]) f6'
    have f84 := hn' b8 (by simp only [hpS, eq_self, implies_true, hne, f3, f6, f3', f6', f8]) f8.2.2.2.2.2.2.2.2
    generalize withA R a' 39 10 (rows.map Fl.d) = R3 at hacc' f34 f64 f84 ⊢
    have hok3 : okK [r, bm] R3 [(r, nvar s3 bm), (bm, nmap s3), (b3, .var [.d (.int .i64 k), .d (.int .i64 k1), .d (.str n1), .d (.int .i64 i1), .d (.slice (Tm.ds xs1)), .d (.int .i64 k2), .d (.str n2), .d (.int .i64 i2), .d (.slice (Tm.ds xs2)), .d (.str n), .d (.slice (xs.map Tm.d)), .d (.slice (gs.map Gl.d))]), (b6, .arr 3 1 v6 (vs.map (fun (v : Nat) => D.int .i64 (v : Int)) ++ List.replicate (d+1) (D.int .i64 0))), (b8, .var [.d (.int .i64 tk), .d (.str tn), .d (.int .i64 ti), .d (.slice (Tm.ds ta))])] := by simp only [hpS, eq_self, implies_true, hne, f3, f6, f8, f34, f64, f84]
    simp -dsimp (maxDischargeDepth := 9) only [go_sem, zA, zB, zC, zD, zE, zF, zG, gS, hne, f3, f6, f8, f34, f64, f84]
    refine andK_split (by simp only [List.length_append, List.length_map, List.length_replicate]; omega) ?_
    simp -dsimp (maxDischargeDepth := 9) only [go_sem, zA, zB, zC, zD, zE, zF, zG, gS, hne, f3, f6, f8, f34, f64, f84, hget, hset]
    have hok5 : okK [r, bm] R3 [(r, nvar s3 bm), (bm, nmap s3), (b3, .var [.d (.int .i64 k), .d (.int .i64 k1), .d (.str n1), .d (.int .i64 i1), .d (.slice (Tm.ds xs1)), .d (.int .i64 k2), .d (.str n2), .d (.int .i64 i2), .d (.slice (Tm.ds xs2)), .d (.str n), .d (.slice (xs.map Tm.d)), .d (.slice (gs.map Gl.d))]), (b6, .arr 3 1 v6 ((vs ++ [pv]).map (fun (v : Nat) => D.int .i64 (v : Int)) ++ List.replicate (d) (D.int .i64 0))), (b8, .var [.d (.int .i64 tk), .d (.str tn), .d (.int .i64 ti), .d (.slice (Tm.ds ta))])] := by simp only [hpS, eq_self, implies_true, hne, f3, f6, f8, f34, f64, f84]
    rw [AccN.src (pre := []) hacc' hok5]
    have hszs := szs_map (sz := 10) (f := Fl.d) (fun x => x.cs_length) rows
    simp -dsimp (maxDischargeDepth := 9) only [go_sem, zA, zB, zC, zD, zE, zF, zG, gS, hszs]
    refine AccN.appTo (pre := [pcF rows a']) (p := pcF out a) (post := []) hacc' hok5 (by simp only [hpS, eq_self, implies_true, hne]) (by simp only [List.length_map]; omega) (fun a2 R4 hacc4 hn4 => ?_)
    have f35 := hn4 b3 (by simp only [hpS, eq_self, implies_true, hne, f3, f6, f8, f34, f64, f84]) f34
    have f65 := hn4 b6 (by simp only [hpS, eq_self, implies_true, hne, f3, f6, f8, f34, f64, f84]) f64
    have f85 := hn4 b8 (by simp only [hpS, eq_self, implies_true, hne, f3, f6, f8, f34, f64, f84]) f84
    have hacc5 : AccN H [r, bm] [pcF (out ++ rows) a2] R4 := by
     have := hacc4.without (pre := [])
     simp only [pcF, List.map_append]; exact this
    simp -dsimp (maxDischargeDepth := 9) only [go_sem, zA, zB, zC, zD, zE, zF, zG, gS, hne, f3, f6, f8, f35, f65, f85, hwj]
    refine roundQ_next (j + 1, vs ++ [pv], out ++ rows, s3, a2, R4) _ ⟨rfl, hacc5, f35, f65, by simp [hvl], q1', by rw [← hrun]; simp, by simp only; omega, by simp only [List.length_append]; omega⟩ (by simp only; omega) (by simp -dsimp (maxDischargeDepth := 9) only [go_sem, zA, zB, zC, zD, zE, zF, zG, gS]) (leH_hp (by simp only [hpS, eq_self, implies_true, hne, f3, f6, f8, f35, f65, f85, hd1]) (by simp only [hpS, eq_self, implies_true, hne, f3, f6, f8, f35, f65, f85, hd1]))
   ·have q1' : j = xs.length := by have := of_decide_eq_false q1; omega
    subst q1'
    rw [drop_end (Nat.le_refl _)] at hrun hnx hout
    simp only [nplaces, Tm.nodess, List.append_nil] at hrun hnx hout
    rw [← hrun] at hK
    simp only at hK
    simp -dsimp (maxDischargeDepth := 9) only [go_sem, zA, zB, zC, zD, zE, zF, zG, gS, q1, hne, f3, f6, f3', f6', Nat.sub_self, List.replicate_zero, List.append_nil]
    refine newV_hp (fun b67 v67 f67 w67 => ?_)
    simp only [off_cons, off_nil] at f67
    simp -dsimp (maxDischargeDepth := 9) only [go_sem, zA, zB, zC, zD, zE, zF, zG, gS, hne, f3, f6, f3', f6', f67]
    refine AccN.appTo (pre := []) (p := pcF out a) (post := []) hacc (by simp only [hpS, eq_self, implies_true, hne, f3, f6, f3', f6', f67]) (by simp only [hpS, eq_self, implies_true, hne]) (by simp only [List.length_map, List.length_cons, List.length_nil]; omega) (fun a2 R5 hacc5 hn5 => ?_)
    have f35 := hn5 b3 (by simp only [hpS, eq_self, implies_true, hne, f3, f6, f3', f6', f67]) f3'
    have f65 := hn5 b6 (by simp only [hpS, eq_self, implies_true, hne, f3, f6, f3', f6', f67]) f6'
    have f675 := hn5 b67 (by simp only [hpS, eq_self, implies_true, hne, f3, f6, f3', f6', f67]) f67.2.2.2.2.2.2.2.2
    have hacc6 : AccN H [r, bm] [pcF (out ++ [fCall ⟨n, vs.length⟩ vs]) a2] R5 := by
     simp only [pcF, List.map_append, List.map_cons, List.map_nil, fCall_d]; exact hacc5
    have q67 := hacc.le.free f67.2.2.2.2.2.2.2.2
    rw [← hvl] at hK
    simp -dsimp (maxDischargeDepth := 9) only [go_sem, zA, zB, zC, zD, zE, zF, zG, gS, hne, f3, f6, f35, f65, f67, f675]
    exact retW_rowX (ps := []) hacc6 (by simp only [hpS, eq_self, implies_true, hne, f3, f6, f35, f65, f67, f675]) (l1 := [(r, nvar s1 bm), (bm, nmap s1)]) (by simp only [hpS, eq_self, implies_true, hne, f3, f6, f35, f65, f67, f675]) (by simp only [hpS, eq_self, implies_true, hne, f3, f6, f67, q67]) (fun hr => hK _ hr)
  simp -dsimp (maxDischargeDepth := 9) only [go_sem, zA, zB, zC, zD, zE, zF, zG, gS, g3, hne, f3]
  refine gif_split (fun g4 => ?_) (fun g4 => ?_)
  ·have e : k = 8 := of_decide_eq_true g4
   have hg : ngoal (.mk k (.mk k1 n1 i1 xs1) (.mk k2 n2 i2 xs2) n xs gs) s = ((nplace (.mk k1 n1 i1 xs1) s).2.1 ++ [fRow 10 (nplace (.mk k1 n1 i1 xs1) s).1 []], (nplace (.mk k1 n1 i1 xs1) s).2.2) := by rw [e]; simp [ngoal]
   rw [hg] at hK
   simp -dsimp (maxDischargeDepth := 9) only [go_sem, zA, zB, zC, zD, zE, zF, zG, gS, g4, hne, f3]
   have hps := nplace_size (.mk k1 n1 i1 xs1) s
   refine place_ok (.mk k1 n1 i1 xs1) hsa _ r bm s ⟨by simp only [hpS, eq_self, implies_true, hne, f3], by simp only [hpS, eq_self, implies_true, hne, f3], hne, hfew⟩ (by omega) _ (fun a' hrow => ?_)
   generalize hu : nplace (.mk k1 n1 i1 xs1) s = u at hK hrow hps ⊢
   obtain ⟨pv, rows, s3⟩ := u
   simp only at hK hrow hps
   simp -dsimp (maxDischargeDepth := 9) only [go_sem, zA, zB, zC, zD, zE, zF, zG, gS, hne, f3]
   obtain ⟨hacc', hw', hn'⟩ := (AccN.none H [r, bm]).take (E := 39) (sz := 10) (l := [(r, nvar s bm), (bm, nmap s), (b3, .var [.d (.int .i64 k), .d (.int .i64 k1), .d (.str n1), .d (.int .i64 i1), .d (.slice (Tm.ds xs1)), .d (.int .i64 k2), .d (.str n2), .d (.int .i64 i2), .d (.slice (Tm.ds xs2)), .d (.str n), .d (.slice (xs.map Tm.d)), .d (.slice (gs.map Gl.d))])]) (by simp only [hpS, eq_self, implies_true, hne]) hrow
   rw [hw' [(r, nvar s3 bm), (bm, nmap s3), (b3, .var [.d (.int .i64 k), .d (.int .i64 k1), .d (.str n1), .d (.int .i64 i1), .d (.slice (Tm.ds xs1)), .d (.int .i64 k2), .d (.str n2), .d (.int .i64 i2), .d (.slice (Tm.ds xs2)), .d (.str n), .d (.slice (xs.map Tm.d)), .d (.slice (gs.map Gl.d))])] (fun _ h => h)]
   have f3' := hn' b3 (by simp only [hpS, eq_self, implies_true, hne, f3]) f3.2.2.2.2
   generalize withA H a' 39 10 (rows.map Fl.d) = R3 at hacc' f3' ⊢
   refine newV_hp (fun b81 v81 f81 w81 => ?_)
   simp only [off_cons, off_nil] at f81
   simp -dsimp (maxDischargeDepth := 9) only [go_sem, zA, zB, zC, zD, zE, zF, zG, gS, hne, f3, f3', f81]
   refine AccN.appTo (pre := []) (p := pcF rows a') (post := []) hacc' (by simp only [hpS, eq_self, implies_true, hne, f3, f3', f81]) (by simp only [hpS, eq_self, implies_true, hne]) (by simp only [List.length_map, List.length_cons, List.length_nil]; omega) (fun a2 R5 hacc5 hn5 => ?_)
   have f35 := hn5 b3 (by simp only [hpS, eq_self, implies_true, hne, f3, f3', f81]) f3'
   have f815 := hn5 b81 (by simp only [hpS, eq_self, implies_true, hne, f3, f3', f81]) f81.2.2.2.2.2.2
   have hacc6 : AccN H [r, bm] [pcF (rows ++ [fRow 10 pv []]) a2] R5 := by
    simp only [pcF, List.map_append, List.map_cons, List.map_nil, fRow_d]; exact hacc5
   have q81 := hacc'.le.free f81.2.2.2.2.2.2
   simp -dsimp (maxDischargeDepth := 9) only [go_sem, zA, zB, zC, zD, zE, zF, zG, gS, hne, f3, f35, f81, f815]
   exact retW_rowX (ps := []) hacc6 (by simp only [hpS, eq_self, implies_true, hne, f3, f35, f81, f815]) (l1 := [(r, nvar s3 bm), (bm, nmap s3)]) (by simp only [hpS, eq_self, implies_true, hne, f3, f35, f81, f815]) (by simp only [hpS, eq_self, implies_true, hne, f3, f81, q81]) (fun hr => hK _ hr)
  simp -dsimp (maxDischargeDepth := 9) only [go_sem, zA, zB, zC, zD, zE, zF, zG, gS, g4, hne, f3]
  refine gif_split (fun g5 => ?_) (fun g5 => ?_)
  ·have e : k = 5 := of_decide_eq_true g5
   have hg : ngoal (.mk k (.mk k1 n1 i1 xs1) (.mk k2 n2 i2 xs2) n xs gs) s = ngoals gs s := by rw [e]; simp [ngoal]
   rw [hg] at hK
   simp -dsimp (maxDischargeDepth := 9) only [go_sem, zA, zB, zC, zD, zE, zF, zG, gS, g5, hne, f3]
   refine svc_loop (X := Nat × List Fl × NS × A × Heap) (fun y => [(0, .ref r 0), (13, y.2.2.2.1), (86, .d (.slice (gs.map Gl.d))), (87, .d (.int .i64 gs.length)), (88, .d (.int .i64 y.1))])
    (fun y G => G = hp y.2.2.2.2 [(r, nvar y.2.2.1 bm), (bm, nmap y.2.2.1), (b3, .var [.d (.int .i64 k), .d (.int .i64 k1), .d (.str n1), .d (.int .i64 i1), .d (.slice (Tm.ds xs1)), .d (.int .i64 k2), .d (.str n2), .d (.int .i64 i2), .d (.slice (Tm.ds xs2)), .d (.str n), .d (.slice (xs.map Tm.d)), .d (.slice (gs.map Gl.d))])] ∧ AccN H [r, bm] [pcF y.2.1 y.2.2.2.1] y.2.2.2.2 ∧ y.2.2.2.2 b3 = none ∧ y.1 ≤ gs.length ∧ (y.2.1 ++ (ngoals (gs.drop y.1) y.2.2.1).1, (ngoals (gs.drop y.1) y.2.2.1).2) = ngoals gs s ∧ y.2.2.1.next + Gl.nodess (gs.drop y.1) ≤ s.next + Gl.nodess gs ∧ y.2.1.length + Gl.nodess (gs.drop y.1) ≤ Gl.nodess gs)
    (fun y => gs.length - y.1) (0, [], s, .nils, H) _ ⟨rfl, (AccN.none H [r, bm]).nil _ _, f3.2.2.2.2, by simp, by simp, by simp, by simp⟩ (by simp -dsimp (maxDischargeDepth := 9) only [go_sem, zA, zB, zC, zD, zE, zF, zG, gS]) (leH_hp (by simp only [hpS, eq_self, implies_true, hne, f3]) (by simp only [hpS, eq_self, implies_true, hne, f3])) ?_
   rintro ⟨j, out, s1, a, R⟩ G ⟨hG, hacc, f3', hj, hrun, hnx, hout⟩
   simp only at hG hacc f3' hj hrun hnx hout
   subst hG
   simp -dsimp (maxDischargeDepth := 9) only [go_sem, zA, zB, zC, zD, zE, zF, zG, gS]
   refine gif_split (fun q1 => ?_) (fun q1 => ?_)
   ·have q1' : j < gs.length := by have := of_decide_eq_true q1; omega
    obtain ⟨⟨tk, ⟨t1, t2, t3, t4⟩, ⟨t5, t6, t7, t8⟩, t9, t10, t11⟩, hx⟩ := list_at q1'
    have hwj := wrapN (k := j) (by omega)
    rw [drop_at hx] at hrun hnx hout
    simp only [ngoals, Gl.nodess] at hrun hnx hout
    simp -dsimp (maxDischargeDepth := 9) only [go_sem, zA, zB, zC, zD, zE, zF, zG, gS, q1, hx, f3, f3', hne, Gl.d, Gl.cs, Tm.cs, List.cons_append, List.nil_append]
    refine newK_hp (fun b15 f15 => ?_)
    simp only [off_cons, off_nil] at f15
    simp -dsimp (maxDischargeDepth := 9) only [go_sem, zA, zB, zC, zD, zE, zF, zG, gS, hne, f3, f3', f15]
    have hgs := ngoal_size (.mk tk (.mk t1 t2 t3 t4) (.mk t5 t6 t7 t8) t9 t10 t11) s1
    refine ih (.mk tk (.mk t1 t2 t3 t4) (.mk t5 t6 t7 t8) t9 t10 t11) (List.mem_of_getElem? hx) _ r bm s1 ⟨by simp only [hpS, eq_self, implies_true, hne, f3, f3', f15], by simp only [hpS, eq_self, implies_true, hne, f3, f3', f15], hne, by omega⟩ (by omega) _ (fun a' hrow => ?_)
    generalize hu : ngoal (.mk tk (.mk t1 t2 t3 t4) (.mk t5 t6 t7 t8) t9 t10 t11) s1 = u at hrun hgs hrow ⊢
    obtain ⟨rows, s2⟩ := u
    simp only at hrun hgs hrow
    simp -dsimp (maxDischargeDepth := 9) only [go_sem, zA, zB, zC, zD, zE, zF, zG, gS, hne, f3, f3', f15]
    obtain ⟨hacc', hw', hn'⟩ := hacc.take (E := 39) (sz := 10) (l := [(r, nvar s1 bm), (bm, nmap s1), (b3, .var [.d (.int .i64 k), .d (.int .i64 k1), .d (.str n1), .d (.int .i64 i1), .d (.slice (Tm.ds xs1)), .d (.int .i64 k2), .d (.str n2), .d (.int .i64 i2), .d (.slice (Tm.ds xs2)), .d (.str n), .d (.slice (xs.map Tm.d)), .d (.slice (gs.map Gl.d))]), (b15, .var [.d (.int .i64 tk), .d (.int .i64 t1), .d (.str t2), .d (.int .i64 t3), .d (.slice (Tm.ds t4)), .d (.int .i64 t5), .d (.str t6), .d (.int .i64 t7), .d (.slice (Tm.ds t8)), .d (.str t9), .d (.slice (t10.map Tm.d)), .d (.slice (Gl.ds t11))])]) (by simp only [hpS, eq_self, implies_true, hne]) hrow
    rw [hw' [(r, nvar s2 bm), (bm, nmap s2), (b3, .var [.d (.int .i64 k), .d (.int .i64 k1), .d (.str n1), .d (.int .i64 i1), .d (.slice (Tm.ds xs1)), .d (.int .i64 k2), .d (.str n2), .d (.int .i64 i2), .d (.slice (Tm.ds xs2)), .d (.str n), .d (.slice (xs.map Tm.d)), .d (.slice (gs.map Gl.d))]), (b15, .var [.d (.int .i64 tk), .d (.int .i64 t1), .d (.str t2), .d (.int .i64 t3), .d (.slice (Tm.ds t4)), .d (.int .i64 t5), .d (.str t6), .d (.int .i64 t7), .d (.slice (Tm.ds t8)), .d (.str t9), .d (.slice (t10.map Tm.d)), .d (.slice (Gl.ds t11))])] (fun _ h => h)]
    have f34 := hn' b3 (by simp only [hpS, eq_self, implies_true, hne, f3, f3', f15]) f3'
    have f154 := hn' b15 (by simp only [hpS, eq_self, implies_true, hne, f3, f3', f15]) f15.2.2.2.2.2.2
    generalize withA R a' 39 10 (rows.map Fl.d) = R3 at hacc' f34 f154 ⊢
    have hok3 : okK [r, bm] R3 [(r, nvar s2 bm), (bm, nmap s2), (b3, .var [.d (.int .i64 k), .d (.int .i64 k1), .d (.str n1), .d (.int .i64 i1), .d (.slice (Tm.ds xs1)), .d (.int .i64 k2), .d (.str n2), .d (.int .i64 i2), .d (.slice (Tm.ds xs2)), .d (.str n), .d (.slice (xs.map Tm.d)), .d (.slice (gs.map Gl.d))]), (b15, .var [.d (.int .i64 tk), .d (.int .i64 t1), .d (.str t2), .d (.int .i64 t3), .d (.slice (Tm.ds t4)), .d (.int .i64 t5), .d (.str t6), .d (.int .i64 t7), .d (.slice (Tm.ds t8)), .d (.str t9), .d (.slice (t10.map Tm.d)), .d (.slice (Gl.ds t11))])] := by simp only [hpS, eq_self, implies_true, hne, f3, f15, f34, f154]
    rw [AccN.src (pre := []) hacc' hok3]
    have hszs := szs_map (sz := 10) (f := Fl.d) (fun x => x.cs_length) rows
    simp -dsimp (maxDischargeDepth := 9) only [go_sem, zA, zB, zC, zD, zE, zF, zG, gS, hszs]
    refine AccN.appTo (pre := [pcF rows a']) (p := pcF out a) (post := []) hacc' hok3 (by simp only [hpS, eq_self, implies_true, hne]) (by simp only [List.length_map]; omega) (fun a2 R4 hacc4 hn4 => ?_)
    have f35 := hn4 b3 (by simp only [hpS, eq_self, implies_true, hne, f3, f15, f34, f154]) f34
    have f155 := hn4 b15 (by simp only [hpS, eq_self, implies_true, hne, f3, f15, f34, f154]) f154
    have hacc5 : AccN H [r, bm] [pcF (out ++ rows) a2] R4 := by
     have := hacc4.without (pre := [])
     simp only [pcF, List.map_append]; exact this
    simp -dsimp (maxDischargeDepth := 9) only [go_sem, zA, zB, zC, zD, zE, zF, zG, gS, hne, f3, f15, f35, f155, hwj]
    refine roundQ_next (j + 1, out ++ rows, s2, a2, R4) _ ⟨rfl, hacc5, f35, q1', by rw [← hrun]; simp, by simp only; omega, by simp only [List.length_append]; omega⟩ (by simp only; omega) (by simp -dsimp (maxDischargeDepth := 9) only [go_sem, zA, zB, zC, zD, zE, zF, zG, gS]) (leH_hp (by simp only [hpS, eq_self, implies_true, hne, f3, f15, f35, f155]) (by simp only [hpS, eq_self, implies_true, hne, f3, f15, f35, f155]))
   ·rw [drop_end (by have := of_decide_eq_false q1; omega)] at hrun
    simp only [ngoals, List.append_nil] at hrun
    rw [← hrun] at hK
    simp only at hK
    simp -dsimp (maxDischargeDepth := 9) only [go_sem, zA, zB, zC, zD, zE, zF, zG, gS, q1, hne, f3, f3']
    exact retW_row (ps := []) hacc (by simp only [hpS, eq_self, implies_true, hne, f3, f3']) (l1 := [(r, nvar s1 bm), (bm, nmap s1)]) (by simp only [hpS, eq_self, implies_true, hne, f3, f3']) (by simp only [hpS, eq_self, implies_true, hne, f3]) (fun hr => hK _ hr)
  simp -dsimp (maxDischargeDepth := 9) only [go_sem, zA, zB, zC, zD, zE, zF, zG, gS, g5, hne, f3]
  refine gif_split (fun g6 => ?_) (fun g6 => ?_)
  ·have e : k = 6 := of_decide_eq_true g6
   have hg : ngoal (.mk k (.mk k1 n1 i1 xs1) (.mk k2 n2 i2 xs2) n xs gs) s = ([fRow 8 0 (nwholes gs s).1], (nwholes gs s).2) := by rw [e]; simp [ngoal]
   rw [hg] at hK
   simp -dsimp (maxDischargeDepth := 9) only [go_sem, zA, zB, zC, zD, zE, zF, zG, gS, g6, hne, f3]
   refine wholes_ok gs hgl ih _ r bm s ⟨by simp only [hpS, eq_self, implies_true, hne, f3], by simp only [hpS, eq_self, implies_true, hne, f3], hne, hfew⟩ (by omega) _ ?_
   generalize hu : nwholes gs s = u at hK ⊢
   obtain ⟨ws, s3⟩ := u
   simp only [List.map_cons, List.map_nil] at hK
   simp -dsimp (maxDischargeDepth := 9) only [go_sem, zA, zB, zC, zD, zE, zF, zG, gS, hne, f3]
   refine newV_hp (fun b106 v106 f106 w106 => ?_)
   simp only [off_cons, off_nil] at f106
   simp -dsimp (maxDischargeDepth := 9) only [go_sem, zA, zB, zC, zD, zE, zF, zG, gS, hne, f3, f106]
   refine retW_drop (G := hp H [(r, nvar s3 bm), (bm, nmap s3), (b106, .arr 39 10 v106 [(fRow 8 0 ws).d])]) (leH_hp (by simp only [hpS, eq_self, implies_true, hne, f3, f106, fRow_d]) (by simp only [hpS, eq_self, implies_true, hne, f3, f106, fRow_d])) (retW_is ?_)
   exact row_new hK (by simp only [hpS, eq_self, implies_true, hne]) (show off H [(r, nvar s3 bm), (bm, nmap s3)] b106 by simp only [hpS, eq_self, implies_true, f106]) w106
  simp -dsimp (maxDischargeDepth := 9) only [go_sem, zA, zB, zC, zD, zE, zF, zG, gS, g6, hne, f3]
  refine gif_split (fun g7 => ?_) (fun g7 => ?_)
  ·have e : k = 7 := of_decide_eq_true g7
   have hg : ngoal (.mk k (.mk k1 n1 i1 xs1) (.mk k2 n2 i2 xs2) n xs gs) s = ([fRow 9 0 (nwholes gs s).1], (nwholes gs s).2) := by rw [e]; simp [ngoal]
   rw [hg] at hK
   simp -dsimp (maxDischargeDepth := 9) only [go_sem, zA, zB, zC, zD, zE, zF, zG, gS, g7, hne, f3]
   refine wholes_ok gs hgl ih _ r bm s ⟨by simp only [hpS, eq_self, implies_true, hne, f3], by simp only [hpS, eq_self, implies_true, hne, f3], hne, hfew⟩ (by omega) _ ?_
   generalize hu : nwholes gs s = u at hK ⊢
   obtain ⟨ws, s3⟩ := u
   simp only [List.map_cons, List.map_nil] at hK
   simp -dsimp (maxDischargeDepth := 9) only [go_sem, zA, zB, zC, zD, zE, zF, zG, gS, hne, f3]
   refine newV_hp (fun b114 v114 f114 w114 => ?_)
   simp only [off_cons, off_nil] at f114
   simp -dsimp (maxDischargeDepth := 9) only [go_sem, zA, zB, zC, zD, zE, zF, zG, gS, hne, f3, f114]
   refine retW_drop (G := hp H [(r, nvar s3 bm), (bm, nmap s3), (b114, .arr 39 10 v114 [(fRow 9 0 ws).d])]) (leH_hp (by simp only [hpS, eq_self, implies_true, hne, f3, f114, fRow_d]) (by simp only [hpS, eq_self, implies_true, hne, f3, f114, fRow_d])) (retW_is ?_)
   exact row_new hK (by simp only [hpS, eq_self, implies_true, hne]) (show off H [(r, nvar s3 bm), (bm, nmap s3)] b114 by simp only [hpS, eq_self, implies_true, f114]) w114
  simp -dsimp (maxDischargeDepth := 9) only [go_sem, zA, zB, zC, zD, zE, zF, zG, gS, g7, hne, f3]
  refine gif_split (fun g8 => ?_) (fun g8 => ?_)
  ·have e : k = 9 := of_decide_eq_true g8
   have hg : ngoal (.mk k (.mk k1 n1 i1 xs1) (.mk k2 n2 i2 xs2) n xs gs) s = ([fRow 11 (nnumber n s).1 (nwholes gs (nnumber n s).2).1], (nwholes gs (nnumber n s).2).2) := by rw [e]; simp [ngoal]
   rw [hg] at hK
   simp -dsimp (maxDischargeDepth := 9) only [go_sem, zA, zB, zC, zD, zE, zF, zG, gS, g8, hne, f3]
   have hnn := nnumber_next n s
   refine number_ok _ r bm s ⟨by simp only [hpS, eq_self, implies_true, hne, f3], by simp only [hpS, eq_self, implies_true, hne, f3], hne, hfew⟩ n _ ?_
   simp -dsimp (maxDischargeDepth := 9) only [go_sem, zA, zB, zC, zD, zE, zF, zG, gS, hne, f3]
   refine wholes_ok gs hgl ih _ r bm (nnumber n s).2 ⟨by simp only [hpS, eq_self, implies_true, hne, f3], by simp only [hpS, eq_self, implies_true, hne, f3], hne, by omega⟩ (by omega) _ ?_
   generalize hu : nwholes gs (nnumber n s).2 = u at hK ⊢
   obtain ⟨ws, s3⟩ := u
   simp only [List.map_cons, List.map_nil] at hK
   simp -dsimp (maxDischargeDepth := 9) only [go_sem, zA, zB, zC, zD, zE, zF, zG, gS, hne, f3]
   refine newV_hp (fun b127 v127 f127 w127 => ?_)
   simp only [off_cons, off_nil] at f127
   simp -dsimp (maxDischargeDepth := 9) only [go_sem, zA, zB, zC, zD, zE, zF, zG, gS, hne, f3, f127]
   refine retW_drop (G := hp H [(r, nvar s3 bm), (bm, nmap s3), (b127, .arr 39 10 v127 [(fRow 11 (nnumber n s).1 ws).d])]) (leH_hp (by simp only [hpS, eq_self, implies_true, hne, f3, f127, fRow_d]) (by simp only [hpS, eq_self, implies_true, hne, f3, f127, fRow_d])) (retW_is ?_)
   exact row_new hK (by simp only [hpS, eq_self, implies_true, hne]) (show off H [(r, nvar s3 bm), (bm, nmap s3)] b127 by simp only [hpS, eq_self, implies_true, f127]) w127
  simp -dsimp (maxDischargeDepth := 9) only [go_sem, zA, zB, zC, zD, zE, zF, zG, gS, g8, hne, f3]
  have hg : ngoal (.mk k (.mk k1 n1 i1 xs1) (.mk k2 n2 i2 xs2) n xs gs) s = ([], s) := by
   have e1 := of_decide_eq_false g1; have e2 := of_decide_eq_false g2; have e3 := of_decide_eq_false g3; have e4 := of_decide_eq_false g4
   have e5 := of_decide_eq_false g5; have e6 := of_decide_eq_false g6; have e7 := of_decide_eq_false g7; have e8 := of_decide_eq_false g8
   simp only [ngoal, if_neg e1, if_neg e2, if_neg e3, if_neg e4, if_neg e5, if_neg e6, if_neg e7, if_neg e8]
  rw [hg] at hK
  simp only [List.map_nil] at hK
  exact retW_drop (G := hp H [(r, nvar s bm), (bm, nmap s)]) (leH_hp (by simp only [hpS, eq_self, implies_true, hne, f3]) (by simp only [hpS, eq_self, implies_true, hne, f3])) (retW_is (hK .nils (.inl ⟨rfl, rfl⟩)))
end Go.Aug

/- The names of the program: predicates that an index has; predicates that are built in. -/
namespace Go.Aug
open Nat renaming reduceBEq → zA, reduceLT → zB, reduceAdd → zC, reduceSub → zD, reduceMul → zE, reduceLeDiff → zF
open Int renaming reduceLE → zG
open Go.Proofs
set_option maxRecDepth 100000
set_option linter.unusedSimpArgs false
attribute [local irreducible] hid andK letA onSome onVar onArr arrOnly onInt onBool onFunc onTup idxA ldV ldD addO appTo fillL slA srcK nilQ retW gif sgd sguard svc sops sdops sagain aopO aLoad aStore aBin aUn aConv aLen aIndexAddr aIndex aIndexAddrS aIndexS aSlice aAppend aBuild aBuildSlice aMakeSlice aField aFieldOf aCallOp deepK deepL frzM putE newK newV growV ACall roundQ thenQ inBlockQ sret cnd szs nilC onMap onRow aLookup aMapUpdate aMakeMap
attribute [local go_sem] Int.natCast_zero
def fidx {α : Type} (p : α → Bool) : List α → Option Nat
 | [] => none
 | x :: xs => if p x = true then some 0 else (fidx p xs).map (· + 1)
theorem fidx_at {α : Type} {p : α → Bool} : ∀ {l : List α} {i : Nat}, fidx p l = some i → ∃ x, l[i]? = some x ∧ l.find? p = some x
 | x :: xs, i, h => by
  simp only [fidx] at h
  split at h
  ·rename_i e; cases h; exact ⟨x, rfl, by simp [List.find?, e]⟩
  ·rename_i e
   cases hx : fidx p xs with
   | none => rw [hx] at h; cases h
   | some j =>
    rw [hx] at h; cases h
    obtain ⟨y, h1, h2⟩ := fidx_at hx
    exact ⟨y, by simpa using h1, by simp only [List.find?]; rw [show p x = false by simpa using e]; exact h2⟩
theorem fidx_none {α : Type} {p : α → Bool} : ∀ {l : List α}, fidx p l = none → l.find? p = none
 | [], _ => rfl
 | x :: xs, h => by
  simp only [fidx] at h
  split at h
  ·cases h
  ·rename_i e
   cases hx : fidx p xs with
   | none => simp only [List.find?]; rw [show p x = false by simpa using e]; exact fidx_none hx
   | some j => rw [hx] at h; cases h
def idxI (o : Option Nat) : Int := match o with | some i => (i : Int) | none => -1
theorem index36_ok {eb : EbG} (l : List Pr) (hl : l.length ≤ 1048576) (f : FuncId) (caps : List A) (hf : callable Tryd.prog f = true) (p : Pr → Bool) (H : Heap)
  (hc : ∀ x ∈ l, ∀ K : A → Heap → Prop, K (.d (.bool (p x))) H → ACall Tryd.prog (seatV eb) f (.d x.d :: caps) H K) (K : A → Heap → Prop) (hK : K (.d (.int .i64 (idxI (fidx p l)))) H) :
  ACall Tryd.prog (seatV eb) 119 [.d (.slice (l.map Pr.d)), .func f caps] H K := by
 refine ACall.by mixed fn119 (by simp) ?_
 conv in s119 => cbv
 refine svc_start ?_
 simp -dsimp (maxDischargeDepth := 9) only [go_sem, zA, zB, zC, zD, zE, zF, zG, gS]
 refine svc_loop (X := Nat) (fun k => [(0, .d (.slice (l.map Pr.d))), (1, .func f caps), (7, .d (.int .i64 l.length)), (8, .d (.int .i64 k))])
  (fun k G => G = H ∧ k ≤ l.length ∧ (fidx p (l.drop k)).map (· + k) = fidx p l) (fun k => l.length - k) 0 _ ⟨rfl, by omega, by simp⟩ (by simp -dsimp (maxDischargeDepth := 9) only [go_sem, zA, zB, zC, zD, zE, zF, zG, gS]) (.refl _) ?_
 rintro k G ⟨hG, hk, hrun⟩
 subst hG
 simp -dsimp (maxDischargeDepth := 9) only [go_sem, zA, zB, zC, zD, zE, zF, zG, gS]
 refine gif_split (fun g1 => ?_) (fun g1 => ?_)
 ·have g1' : k < l.length := by have := of_decide_eq_true g1; omega
  obtain ⟨x, hx⟩ := list_at g1'
  have hwj := wrapN (k := k) (by omega)
  rw [drop_at hx] at hrun
  simp only [fidx] at hrun
  have hcx := hc x (List.mem_of_getElem? hx)
  obtain ⟨⟨kn, ka⟩, ts, ms, cs⟩ := x
  simp -dsimp (maxDischargeDepth := 9) only [go_sem, zA, zB, zC, zD, zE, zF, zG, gS, g1, hx, Pr.d, Pr.cs, hf, List.cons_append, List.nil_append]
  refine hcx _ ?_
  simp -dsimp (maxDischargeDepth := 9) only [go_sem, zA, zB, zC, zD, zE, zF, zG, gS]
  refine gif_split (fun g2 => ?_) (fun g2 => ?_)
  ·simp only [if_pos g2, Option.map_some, Nat.zero_add] at hrun
   rw [← hrun] at hK
   simp -dsimp (maxDischargeDepth := 9) only [go_sem, zA, zB, zC, zD, zE, zF, zG, gS, g2]
   exact retW_is hK
  ·have g2' : ¬ p ⟨⟨kn, ka⟩, ts, ms, cs⟩ = true := by rw [g2]; exact Bool.false_ne_true
   rw [if_neg g2', Option.map_map] at hrun
   simp -dsimp (maxDischargeDepth := 9) only [go_sem, zA, zB, zC, zD, zE, zF, zG, gS, g2, hwj]
   exact roundQ_next (k + 1) _ ⟨rfl, g1', by rw [← hrun]; congr 1; funext i; simp only [Function.comp]; omega⟩ (by omega) (by simp -dsimp (maxDischargeDepth := 9) only [go_sem, zA, zB, zC, zD, zE, zF, zG, gS]) (.refl _)
 ·rw [drop_end (by have := of_decide_eq_false g1; omega)] at hrun
  rw [← hrun] at hK
  simp -dsimp (maxDischargeDepth := 9) only [go_sem, zA, zB, zC, zD, zE, zF, zG, gS, g1]
  exact retW_is hK
theorem predKey_ok {eb : EbG} (x : Pr) (H : Heap) (K : A → Heap → Prop) (hK : K (.d x.key.d) H) : ACall Tryd.prog (seatV eb) 67 [.d x.d] H K := by
 obtain ⟨⟨kn, ka⟩, ts, ms, cs⟩ := x
 refine ACall.hp_start ?_
 refine ACall.by mixed fn67 (by simp) ?_
 conv in s67 => cbv
 refine svc_start ?_
 simp -dsimp (maxDischargeDepth := 9) only [go_sem, zA, zB, zC, zD, zE, zF, zG, gS, Pr.d, Pr.cs, List.cons_append, List.nil_append]
 refine newK_hp (fun b1 f1 => ?_)
 simp only [off_cons, off_nil] at f1
 simp -dsimp (maxDischargeDepth := 9) only [go_sem, zA, zB, zC, zD, zE, zF, zG, gS, f1]
 refine newK_hp (fun b2 f2 => ?_)
 simp only [off_cons, off_nil] at f2
 simp -dsimp (maxDischargeDepth := 9) only [go_sem, zA, zB, zC, zD, zE, zF, zG, gS, f1, f2]
 exact retW_drop (G := H) (leH_hp0 (by simp only [hpS, eq_self, implies_true, f1, f2])) (retW_is hK)
def pfind (l : List Pr) (q : Ky) : Option Pr := l.find? fun x => Ky.eqb x.key q
theorem find66_ok {eb : EbG} (l : List Pr) (hl : l.length ≤ 1048576) (q : Ky) (H : Heap) (K : A → Heap → Prop) (hK : K (.tup [.d ((pfind l q).getD ⟨⟨⟨#[]⟩, 0⟩, [], [], []⟩).d, .d (.bool (pfind l q).isSome)]) H) :
  ACall Tryd.prog (seatV eb) 66 [.d (.slice (l.map Pr.d)), .d q.d, .func 67 []] H K := by
 refine ACall.hp_start ?_
 refine ACall.by mixed fn66 (by simp) ?_
 conv in s66 => cbv
 refine svc_start ?_
 simp -dsimp (maxDischargeDepth := 9) only [go_sem, zA, zB, zC, zD, zE, zF, zG, gS, Ky.d, Ky.cs]
 refine newK_hp (fun b4 f4 => ?_)
 simp only [off_cons, off_nil] at f4
 simp -dsimp (maxDischargeDepth := 9) only [go_sem, zA, zB, zC, zD, zE, zF, zG, gS, f4]
 refine newK_hp (fun b5 f5 => ?_)
 simp only [off_cons, off_nil] at f5
 simp -dsimp (maxDischargeDepth := 9) only [go_sem, zA, zB, zC, zD, zE, zF, zG, gS, f4, f5]
 refine newK_hp (fun b6 f6 => ?_)
 simp only [off_cons, off_nil] at f6
 simp -dsimp (maxDischargeDepth := 9) only [go_sem, zA, zB, zC, zD, zE, zF, zG, gS, f4, f5, f6]
 refine index36_ok l hl 120 _ (by kernel_rfl) (fun x => Ky.eqb x.key q) _ (fun x hx K hK => ?_) _ ?_
 ·obtain ⟨⟨kn, ka⟩, ts, ms, cs⟩ := x
  have hxd : (⟨⟨kn, ka⟩, ts, ms, cs⟩ : Pr).d = .agg [.str kn, .int .i64 ka, .slice (ts.map Ty.d), .slice (ms.map Md.d), .slice (cs.map (.int .i64))] := rfl
  rw [hxd]
  refine ACall.by mixed fn120 (by simp) ?_
  conv in s120 => cbv
  refine svc_start ?_
  simp -dsimp (maxDischargeDepth := 9) only [go_sem, zA, zB, zC, zD, zE, zF, zG, gS, f4, f5, f6]
  refine newK_hp (fun b3 f3 => ?_)
  simp only [off_cons, off_nil] at f3
  have hc67 : callable Tryd.prog 67 = true := by kernel_rfl
  simp -dsimp (maxDischargeDepth := 9) only [go_sem, zA, zB, zC, zD, zE, zF, zG, gS, f3, f4, f5, f6, hc67, List.append_nil]
  refine predKey_ok ⟨⟨kn, ka⟩, ts, ms, cs⟩ _ _ ?_
  simp -dsimp (maxDischargeDepth := 9) only [go_sem, zA, zB, zC, zD, zE, zF, zG, gS, f3, f4, f5, f6, Ky.d, Ky.cs]
  refine retW_drop (G := hp H [(b4, .var [.d (.str q.name), .d (.int .i64 q.ar)]), (b5, .var [.func 67 []]), (b6, .var [.d (.str ⟨#[]⟩), .d (.int .i64 0), .nils, .nils, .nils])]) (leH_hp (by simp only [hpS, eq_self, implies_true, f3, f4, f5, f6]) (by simp only [hpS, eq_self, implies_true, f3, f4, f5, f6])) (retW_is ?_)
  exact hK
 cases hi : fidx (fun x => Ky.eqb x.key q) l with
 | none =>
  have hno := fidx_none hi
  simp only [pfind, hno, Option.getD_none, Option.isSome_none] at hK
  have qn : decide ((-1 : Int) < 0) = true := by decide
  simp -dsimp (maxDischargeDepth := 9) only [go_sem, zA, zB, zC, zD, zE, zF, zG, gS, f4, f5, f6, idxI, qn]
  refine newK_hp (fun b9 f9 => ?_)
  simp only [off_cons, off_nil] at f9
  simp -dsimp (maxDischargeDepth := 9) only [go_sem, zA, zB, zC, zD, zE, zF, zG, gS, f4, f5, f6, f9]
  refine retW_tup [true, true] ?_
  simp -dsimp (maxDischargeDepth := 9) only [go_sem, zA, zB, zC, zD, zE, zF, zG, gS, frzM]
  exact retW_drop (G := H) (leH_hp0 (by simp only [hpS, eq_self, implies_true, f4, f5, f6, f9])) (retW_is hK)
 | some i =>
  obtain ⟨x, hx, hso⟩ := fidx_at hi
  simp only [pfind, hso, Option.getD_some, Option.isSome_some] at hK
  obtain ⟨⟨kn, ka⟩, ts, ms, cs⟩ := x
  have qn : decide ((i : Int) < 0) = false := by simp
  simp -dsimp (maxDischargeDepth := 9) only [go_sem, zA, zB, zC, zD, zE, zF, zG, gS, f4, f5, f6, idxI, qn, hx, Pr.d, Pr.cs, List.cons_append, List.nil_append]
  exact retW_drop (G := H) (leH_hp0 (by simp only [hpS, eq_self, implies_true, f4, f5, f6])) (retW_is hK)
def kyP0 : Pr := ⟨⟨⟨#[]⟩, 0⟩, [], [], []⟩
theorem pred_ok {eb : EbG} (x : Ix) (hl : x.preds.length ≤ 1048576) (q : Ky) (H : Heap) (K : A → Heap → Prop) (hK : K (.tup [.d ((pfind x.preds q).getD kyP0).d, .d (.bool (pfind x.preds q).isSome)]) H) :
  ACall Tryd.prog (seatV eb) 26 [.d x.d, .d q.d] H K := by
 obtain ⟨ts, cs, l⟩ := x
 simp only at hl hK
 refine ACall.hp_start ?_
 refine ACall.by mixed fn26 (by simp) ?_
 conv in s26 => cbv
 refine svc_start ?_
 simp -dsimp (maxDischargeDepth := 9) only [go_sem, zA, zB, zC, zD, zE, zF, zG, gS, Ix.d, Ix.cs, Ky.d, Ky.cs]
 refine newK_hp (fun b2 f2 => ?_)
 simp only [off_cons, off_nil] at f2
 simp -dsimp (maxDischargeDepth := 9) only [go_sem, zA, zB, zC, zD, zE, zF, zG, gS, f2]
 refine newK_hp (fun b3 f3 => ?_)
 simp only [off_cons, off_nil] at f3
 simp -dsimp (maxDischargeDepth := 9) only [go_sem, zA, zB, zC, zD, zE, zF, zG, gS, f2, f3]
 refine newK_hp (fun b4 f4 => ?_)
 simp only [off_cons, off_nil] at f4
 simp -dsimp (maxDischargeDepth := 9) only [go_sem, zA, zB, zC, zD, zE, zF, zG, gS, f2, f3, f4]
 refine find66_ok l hl q _ _ ?_
 change K (.tup [.d ((pfind l q).getD ⟨⟨⟨#[]⟩, 0⟩, [], [], []⟩).d, _]) H at hK
 generalize (pfind l q).getD ⟨⟨⟨#[]⟩, 0⟩, [], [], []⟩ = y at hK ⊢
 obtain ⟨⟨kn, ka⟩, ys, ms, zs⟩ := y
 simp -dsimp (maxDischargeDepth := 9) only [go_sem, zA, zB, zC, zD, zE, zF, zG, gS, f2, f3, f4, Pr.d, Pr.cs, List.cons_append, List.nil_append]
 exact retW_drop (G := H) (leH_hp0 (by simp only [hpS, eq_self, implies_true, f2, f3, f4])) (retW_is hK)
theorem fidx_any {α : Type} {p : α → Bool} : ∀ {l : List α}, (fidx p l).isSome = l.any p
 | [] => rfl
 | x :: xs => by
  simp only [fidx, List.any_cons]
  split
  ·rename_i e; simp [e]
  ·rename_i e; rw [show p x = false by simpa using e, Bool.false_or, ← fidx_any]; cases fidx p xs <;> rfl
theorem contains36_ok {eb : EbG} (l : List Pr) (hl : l.length ≤ 1048576) (f : FuncId) (caps : List A) (hf : callable Tryd.prog f = true) (p : Pr → Bool) (H : Heap)
  (hc : ∀ x ∈ l, ∀ K : A → Heap → Prop, K (.d (.bool (p x))) H → ACall Tryd.prog (seatV eb) f (.d x.d :: caps) H K) (K : A → Heap → Prop) (hK : K (.d (.bool (l.any p))) H) :
  ACall Tryd.prog (seatV eb) 64 [.d (.slice (l.map Pr.d)), .func f caps] H K := by
 refine ACall.by mixed fn64 (by simp) ?_
 conv in s64 => cbv
 refine svc_start ?_
 simp -dsimp (maxDischargeDepth := 9) only [go_sem, zA, zB, zC, zD, zE, zF, zG, gS]
 refine index36_ok l hl f caps hf p H hc _ ?_
 have hq : decide (idxI (fidx p l) ≥ 0) = l.any p := by
  rw [← fidx_any]; cases fidx p l <;> simp [idxI]
 simp -dsimp (maxDischargeDepth := 9) only [go_sem, zA, zB, zC, zD, zE, zF, zG, gS]
 change retW _ (.d (.bool (decide (idxI (fidx p l) ≥ 0)))) _ _
 rw [hq]
 exact retW_is hK
theorem builtin_ok {eb : EbG} (H : Heap) (q : Ky) (K : A → Heap → Prop) (hK : K (.d (.bool (isBuiltin q))) H) :
  ACall Tryd.prog (seatV eb) 24 [.d q.d] H K := by
 refine ACall.hp_start ?_
 refine ACall.by mixed fn24 (by simp) ?_
 conv in s24 => cbv
 refine svc_start ?_
 simp -dsimp (maxDischargeDepth := 9) only [go_sem, zA, zB, zC, zD, zE, zF, zG, gS, Ky.d, Ky.cs]
 refine newK_hp (fun b1 f1 => ?_)
 simp only [off_cons, off_nil] at f1
 simp -dsimp (maxDischargeDepth := 9) only [go_sem, zA, zB, zC, zD, zE, zF, zG, gS, f1]
 refine builtins50_ok _ _ ?_
 have hlen : builtinsL.length ≤ 1048576 := by show 7 ≤ _; decide
 unfold isBuiltin at hK
 generalize builtinsL = l at hlen hK ⊢
 simp -dsimp (maxDischargeDepth := 9) only [go_sem, zA, zB, zC, zD, zE, zF, zG, gS, f1]
 refine contains36_ok l hlen 65 _ (by kernel_rfl) (fun x => Ky.eqb x.key q) _ (fun x hx K hK => ?_) _ ?_
 ·obtain ⟨⟨kn, ka⟩, ts, ms, cs⟩ := x
  refine ACall.by mixed fn65 (by simp) ?_
  conv in s65 => cbv
  refine svc_start ?_
  simp -dsimp (maxDischargeDepth := 9) only [go_sem, zA, zB, zC, zD, zE, zF, zG, gS, f1, Pr.d, Pr.cs, List.cons_append, List.nil_append]
  refine newK_hp (fun b2 f2 => ?_)
  simp only [off_cons, off_nil] at f2
  simp -dsimp (maxDischargeDepth := 9) only [go_sem, zA, zB, zC, zD, zE, zF, zG, gS, f1, f2]
  exact retW_drop (G := hp H [(b1, .var [.d (.str q.name), .d (.int .i64 q.ar)])]) (leH_hp (by simp only [hpS, eq_self, implies_true, f1, f2]) (by simp only [hpS, eq_self, implies_true, f1, f2])) (retW_is hK)
 ·simp -dsimp (maxDischargeDepth := 9) only [go_sem, zA, zB, zC, zD, zE, zF, zG, gS, f1]
  exact retW_drop (G := H) (leH_hp0 (by simp only [hpS, eq_self, implies_true, f1])) (retW_is hK)
end Go.Aug

/- Flat predicates: Flatten of the program. -/
namespace Go.Aug
open Nat renaming reduceBEq → zA, reduceLT → zB, reduceAdd → zC, reduceSub → zD, reduceMul → zE, reduceLeDiff → zF
open Int renaming reduceLE → zG
open Go.Proofs
set_option maxRecDepth 100000
set_option linter.unusedSimpArgs false
attribute [local irreducible] hid andK letA onSome onVar onArr arrOnly onInt onBool onFunc onTup idxA ldV ldD addO appTo fillL slA srcK nilQ retW gif sgd sguard svc sops sdops sagain aopO aLoad aStore aBin aUn aConv aLen aIndexAddr aIndex aIndexAddrS aIndexS aSlice aAppend aBuild aBuildSlice aMakeSlice aField aFieldOf aCallOp deepK deepL frzM putE newK newV growV ACall roundQ thenQ inBlockQ sret cnd szs nilC onMap onRow aLookup aMapUpdate aMakeMap
attribute [local go_sem] Int.natCast_zero
def nheads : Nat → List Tm → NS → List Fl × NS
 | _, [], s => ([], s)
 | i, t :: ts, s => ((nunify i t s).1 ++ (nheads (i + 1) ts (nunify i t s).2).1, (nheads (i + 1) ts (nunify i t s).2).2)
theorem nheads_size : ∀ (i : Nat) (ts : List Tm) (s : NS), (nheads i ts s).1.length ≤ Tm.nodess ts ∧ s.next ≤ (nheads i ts s).2.next ∧ (nheads i ts s).2.next ≤ s.next + Tm.nodess ts
 | _, [], s => by simp [nheads, Tm.nodess]
 | i, t :: ts, s => by
  have h1 := nunify_size i t s
  have h2 := nheads_size (i + 1) ts (nunify i t s).2
  simp only [nheads, Tm.nodess, List.length_append]; omega
def It.nodes (it : It) : Nat := Tm.nodess it.args + it.body.nodes
/-- A clause from its next free number: the row and the next free number. -/
def nclause (it : It) (next : Nat) : Fl × Nat :=
 (nwhole ((nheads 0 it.args ⟨next, []⟩).1 ++ (ngoal it.body (nheads 0 it.args ⟨next, []⟩).2).1), (ngoal it.body (nheads 0 it.args ⟨next, []⟩).2).2.next)
def nclauses : List It → Nat → List Fl × Nat
 | [], n => ([], n)
 | it :: ls, n => ((nclause it n).1 :: (nclauses ls (nclause it n).2).1, (nclauses ls (nclause it n).2).2)
def sumNodes : List It → Nat
 | [] => 0
 | it :: ls => it.nodes + sumNodes ls
theorem nclause_next (it : It) (n : Nat) : n ≤ (nclause it n).2 ∧ (nclause it n).2 ≤ n + it.nodes := by
 have h1 := nheads_size 0 it.args ⟨n, []⟩
 have h2 := ngoal_size it.body (nheads 0 it.args ⟨n, []⟩).2
 simp only [nclause, It.nodes] at h1 h2 ⊢; omega
theorem nclauses_next : ∀ (ls : List It) (n : Nat), n ≤ (nclauses ls n).2 ∧ (nclauses ls n).2 ≤ n + sumNodes ls
 | [], n => by simp [nclauses, sumNodes]
 | it :: ls, n => by
  have h1 := nclause_next it n; have h2 := nclauses_next ls (nclause it n).2
  simp only [nclauses, sumNodes]; omega
theorem nclauses_len : ∀ (ls : List It) (n : Nat), (nclauses ls n).1.length = ls.length
 | [], _ => rfl
 | it :: ls, n => by simp only [nclauses, List.length_cons, nclauses_len ls]
def nbody : List Fl → Fl
 | [] => fRow 2 0 []
 | [g] => g
 | gs => fRow 8 0 gs
structure FP where
 key : Ky
 vars : Int
 body : Fl
def FP.cs (p : FP) : List D := [.str p.key.name, .int .i64 p.key.ar, .int .i64 p.vars] ++ p.body.cs
def FP.d (p : FP) : D := .agg p.cs
def fl0 : Fl := .mk 0 0 0 0 ky0 ky0 [] []
def fp0 : FP := ⟨ky0, 0, fl0⟩
theorem eqn_some {R : Heap} {b c : Nat} {o : AObj} (h1 : R b = some o) (h2 : R c = none) : eqn b c = false ∧ eqn c b = false := by
 have h : b ≠ c := by rintro rfl; rw [h1] at h2; cases h2
 exact ⟨eqn_ne h, eqn_ne h.symm⟩
/-- The items of a row of clauses. -/
def atIts (l : List It) (cs : List Int) : List It := cs.map fun c => l.getD c.toNat default
/-- What Flatten says: 0 with a predicate, or an error's number. -/
def nflat (l : List It) (x : Ix) (q : Ky) : Nat × FP :=
 match pfind x.preds q with
 | none => (1, fp0)
 | some p => if isBuiltin q = true then (1, fp0) else
  if 200 < (nclauses (atIts l p.clauses) q.ar.toNat).2 then (2, fp0) else (0, ⟨q, (nclauses (atIts l p.clauses) q.ar.toNat).2, nbody (nclauses (atIts l p.clauses) q.ar.toNat).1⟩)
def errD (n : Nat) : D := if n = 0 then .raw .nilIface else .sent n
set_option maxHeartbeats 8000000 in
theorem flatten_ok {eb : EbG} [ho1 : On eb 1] [ho2 : On eb 2] (l : List It) (hl : Srcs l) (x : Ix) (hx : x.preds.length ≤ 1048576) (q : Ky) (hqq : ∀ p, pfind x.preds q = some p → 0 ≤ q.ar ∧ q.ar ≤ 1048576)
  (hcl : ∀ p, pfind x.preds q = some p → p.clauses.length ≤ 1048576 ∧ (∀ c ∈ p.clauses, 0 ≤ c ∧ c < l.length) ∧ sumNodes (atIts l p.clauses) ≤ 549755813888) (H : Heap) (K : A → Heap → Prop)
  (hK : K (.tup [.d (nflat l x q).2.d, .d (errD (nflat l x q).1)]) H) :
  ACall Tryd.prog (seatV eb) 15 [.d (.slice (l.map It.d)), .d x.d, .d q.d] H K := by
 obtain ⟨xts, xcs, ps⟩ := x
 simp only at hx hcl hqq
 refine ACall.hp_start ?_
 have hg1 : (seatV eb).G 1 = some (.sent 1) := seatV_on ho1
 have hg2 : (seatV eb).G 2 = some (.sent 2) := seatV_on ho2
 refine ACall.by mixed fn15 (by simp) ?_
 conv in s15 => cbv
 refine svc_start ?_
 simp -dsimp (maxDischargeDepth := 9) only [go_sem, zA, zB, zC, zD, zE, zF, zG, gS, Ix.d, Ix.cs, Ky.d, Ky.cs]
 refine newK_hp (fun b4 f4 => ?_)
 simp only [off_cons, off_nil] at f4
 simp -dsimp (maxDischargeDepth := 9) only [go_sem, zA, zB, zC, zD, zE, zF, zG, gS, f4]
 refine newK_hp (fun b5 f5 => ?_)
 simp only [off_cons, off_nil] at f5
 simp -dsimp (maxDischargeDepth := 9) only [go_sem, zA, zB, zC, zD, zE, zF, zG, gS, f4, f5]
 refine newK_hp (fun b6 f6 => ?_)
 simp only [off_cons, off_nil] at f6
 simp -dsimp (maxDischargeDepth := 9) only [go_sem, zA, zB, zC, zD, zE, zF, zG, gS, f4, f5, f6]
 refine pred_ok ⟨xts, xcs, ps⟩ hx q _ _ ?_
 simp only
 cases hpf : pfind ps q with
 | none =>
  simp only [Option.getD_none, Option.isSome_none]
  simp -dsimp (maxDischargeDepth := 9) only [go_sem, zA, zB, zC, zD, zE, zF, zG, gS, f4, f5, f6, kyP0, Pr.d, Pr.cs, List.map_nil, List.cons_append, List.nil_append]
  refine newK_hp (fun b8 f8 => ?_)
  simp only [off_cons, off_nil] at f8
  simp -dsimp (maxDischargeDepth := 9) only [go_sem, zA, zB, zC, zD, zE, zF, zG, gS, f4, f5, f6, f8, hg1]
  have hn : nflat l ⟨xts, xcs, ps⟩ q = (1, fp0) := by simp only [nflat, hpf]
  rw [hn] at hK
  refine retW_tup [true, true] ?_
  simp -dsimp (maxDischargeDepth := 9) only [go_sem, zA, zB, zC, zD, zE, zF, zG, gS, frzM]
  exact retW_drop (G := H) (leH_hp0 (by simp only [hpS, eq_self, implies_true, f4, f5, f6, f8])) (retW_is hK)
 | some p =>
  obtain ⟨hcn, hcr, hsn⟩ := hcl p hpf
  obtain ⟨hq, hqa⟩ := hqq p hpf
  obtain ⟨⟨pkn, pka⟩, pts, pms, pcs⟩ := p
  simp only [Option.getD_some, Option.isSome_some]
  simp only at hcn hcr hsn
  simp -dsimp (maxDischargeDepth := 9) only [go_sem, zA, zB, zC, zD, zE, zF, zG, gS, f4, f5, f6, Pr.d, Pr.cs, List.cons_append, List.nil_append]
  refine newK_hp (fun b8 f8 => ?_)
  simp only [off_cons, off_nil] at f8
  simp -dsimp (maxDischargeDepth := 9) only [go_sem, zA, zB, zC, zD, zE, zF, zG, gS, f4, f5, f6, f8]
  refine builtin_ok _ q _ ?_
  simp -dsimp (maxDischargeDepth := 9) only [go_sem, zA, zB, zC, zD, zE, zF, zG, gS, f4, f5, f6, f8]
  refine gif_split (fun g1 => ?_) (fun g1 => ?_)
  ·simp -dsimp (maxDischargeDepth := 9) only [go_sem, zA, zB, zC, zD, zE, zF, zG, gS, g1, f4, f5, f6, f8, hg1]
   have hn : nflat l ⟨xts, xcs, ps⟩ q = (1, fp0) := by simp only [nflat, hpf]; exact if_pos g1
   rw [hn] at hK
   refine retW_tup [true, true] ?_
   simp -dsimp (maxDischargeDepth := 9) only [go_sem, zA, zB, zC, zD, zE, zF, zG, gS, frzM]
   exact retW_drop (G := H) (leH_hp0 (by simp only [hpS, eq_self, implies_true, f4, f5, f6, f8])) (retW_is hK)
  ·simp -dsimp (maxDischargeDepth := 9) only [go_sem, zA, zB, zC, zD, zE, zF, zG, gS, g1, f4, f5, f6, f8]
   refine newK_hp (fun b10 f10 => ?_)
   simp only [off_cons, off_nil] at f10
   simp -dsimp (maxDischargeDepth := 9) only [go_sem, zA, zB, zC, zD, zE, zF, zG, gS, f4, f5, f6, f8, f10]
   obtain ⟨ar, har⟩ := Int.eq_ofNat_of_zero_le hq
   have hn : nflat l ⟨xts, xcs, ps⟩ q = if 200 < (nclauses (atIts l pcs) ar).2 then (2, fp0) else (0, ⟨q, (nclauses (atIts l pcs) ar).2, nbody (nclauses (atIts l pcs) ar).1⟩) := by
    simp only [nflat, hpf, har, Int.toNat_natCast]; exact if_neg (by rw [g1]; exact Bool.false_ne_true)
   rw [hn] at hK
   simp only [har]
   have hal : (atIts l pcs).length = pcs.length := by simp [atIts]
   refine svc_loop (X := Nat × List Fl × Nat × A × A × Heap) (fun y => [(0, .d (.slice (l.map It.d))), (5, .ref b5 0), (6, .ref b6 0), (10, .ref b10 0), (11, y.2.2.2.1), (38, .d (.slice (pcs.map (.int .i64)))), (39, .d (.int .i64 pcs.length)), (40, .d (.int .i64 y.1))])
    (fun y G => G = hp y.2.2.2.2.2 [(b5, .var [.d (.str q.name), .d (.int .i64 ar)]), (b6, .var [.d (.str ⟨#[]⟩), .d (.int .i64 0), .d (.int .i64 0), .d (.int .i64 0), .d (.int .i64 0), .d (.int .i64 0), .d (.int .i64 0), .d (.str ⟨#[]⟩), .d (.int .i64 0), .d (.str ⟨#[]⟩), .d (.int .i64 0), .nils, .nils]), (b10, .var [.d (.int .i64 y.2.2.1), y.2.2.2.2.1])] ∧ AccN H [] [pcF y.2.1 y.2.2.2.1] y.2.2.2.2.2 ∧ y.2.2.2.2.2 b5 = none ∧ y.2.2.2.2.2 b6 = none ∧ y.2.2.2.2.2 b10 = none ∧ y.1 ≤ pcs.length ∧ (y.2.1 ++ (nclauses ((atIts l pcs).drop y.1) y.2.2.1).1, (nclauses ((atIts l pcs).drop y.1) y.2.2.1).2) = nclauses (atIts l pcs) ar ∧ y.2.2.1 + sumNodes ((atIts l pcs).drop y.1) ≤ ar + sumNodes (atIts l pcs) ∧ y.2.1.length = y.1)
    (fun y => pcs.length - y.1) (0, [], ar, .nils, .d (.raw (.map none)), H) _ ⟨rfl, (AccN.none H []).nil _ _, f5.2.2, f6.2.2.2.2, f10.2.2.2.2.2.2.2.2, by simp, by simp, by simp, rfl⟩ (by simp -dsimp (maxDischargeDepth := 9) only [go_sem, zA, zB, zC, zD, zE, zF, zG, gS]) (leH_hp (by simp only [hpS, eq_self, implies_true, f4, f5, f6, f8, f10]) (by simp only [hpS, eq_self, implies_true, f4, f5, f6, f8, f10])) ?_
   rintro ⟨j, out, nx, a, mp, R⟩ G ⟨hG, hacc, f51, f61, f101, hj, hrun, hnx, hout⟩
   simp only at hG hacc f51 f61 f101 hj hrun hnx hout
   subst hG
   simp -dsimp (maxDischargeDepth := 9) only [go_sem, zA, zB, zC, zD, zE, zF, zG, gS]
   refine gif_split (fun q1 => ?_) (fun q1 => ?_)
   ·have q1' : j < pcs.length := by have := of_decide_eq_true q1; omega
    obtain ⟨c, hx⟩ := list_at q1'
    have hcx := hcr c (List.mem_of_getElem? hx)
    obtain ⟨ci, rfl⟩ := Int.eq_ofNat_of_zero_le hcx.1
    obtain ⟨it, hit⟩ := list_at (show ci < l.length by omega)
    have hitx : (atIts l pcs)[j]? = some it := by simp [atIts, hx, List.getD, hit]
    have hwj := wrapN (k := j) (by omega)
    rw [drop_at hitx] at hrun hnx
    simp only [nclauses, sumNodes] at hrun hnx
    obtain ⟨x1, x2, x3, x4, x5, x6, x7, x8, x9, x10, x11, x12, hbody, hd⟩ := it.opn
    have hgd : it.body.d = .agg [x1, x2, x3, x4, x5, x6, x7, x8, x9, x10, x11, x12] := by rw [Gl.d, hbody]
    simp -dsimp (maxDischargeDepth := 9) only [go_sem, zA, zB, zC, zD, zE, zF, zG, gS, q1, hx, hit, hd, f51, f61, f101]
    refine newK_hp (fun b14 f14 => ?_)
    simp only [off_cons, off_nil] at f14
    simp -dsimp (maxDischargeDepth := 9) only [go_sem, zA, zB, zC, zD, zE, zF, zG, gS, f5, f6, f10, f51, f61, f101, f14]
    have hit2 := hl.small it (List.mem_of_getElem? hit)
    obtain ⟨hav, hat⟩ := hit2.args
    refine newK_hp (fun b49 f49 => ?_)
    simp only [off_cons, off_nil] at f49
    simp -dsimp (maxDischargeDepth := 9) only [go_sem, zA, zB, zC, zD, zE, zF, zG, gS, f5, f6, f10, f51, f61, f101, f14, f49]
    have hne : eqn b10 b49 = false ∧ eqn b49 b10 = false := ⟨f49.2.2.2.2.2.1, f49.2.2.2.2.1⟩
    have hnod := It.nodes.eq_def it
    have hm0 : nmap ⟨nx, []⟩ = .map (.one .str) [] := rfl
    refine svc_loop (X := Nat × List Fl × NS × A × Heap) (fun y => [(0, .d (.slice (l.map It.d))), (5, .ref b5 0), (6, .ref b6 0), (10, .ref b10 0), (11, a), (14, .ref b14 0), (15, y.2.2.2.1), (38, .d (.slice (pcs.map (.int .i64)))), (39, .d (.int .i64 pcs.length)), (40, .d (.int .i64 j)), (53, .d (.slice (it.args.map Tm.d))), (54, .d (.int .i64 it.args.length)), (55, .d (.int .i64 y.1))])
     (fun y G => G = Aug.hp y.2.2.2.2 [(b5, .var [.d (.str q.name), .d (.int .i64 ar)]), (b6, .var [.d (.str ⟨#[]⟩), .d (.int .i64 0), .d (.int .i64 0), .d (.int .i64 0), .d (.int .i64 0), .d (.int .i64 0), .d (.int .i64 0), .d (.str ⟨#[]⟩), .d (.int .i64 0), .d (.str ⟨#[]⟩), .d (.int .i64 0), .nils, .nils]), (b10, nvar y.2.2.1 b49), (b14, .var [.d (.int .i64 it.kind), .d (.str it.name), .d (.slice (it.vars.map .str)), .d (.slice (it.ctors.map Ct.d)), .d (.slice (it.types.map Ty.d)), .d (.slice (it.ways.map .bool)), .d (.int .i64 it.det), .d (.slice (it.args.map Tm.d)), .d x1, .d x2, .d x3, .d x4, .d x5, .d x6, .d x7, .d x8, .d x9, .d x10, .d x11, .d x12]), (b49, nmap y.2.2.1)] ∧ AccN H [] [pcF y.2.1 y.2.2.2.1, pcF out a] y.2.2.2.2 ∧ (y.2.2.2.2 b5 = none ∧ y.2.2.2.2 b6 = none ∧ y.2.2.2.2 b10 = none ∧ y.2.2.2.2 b14 = none ∧ y.2.2.2.2 b49 = none) ∧ y.1 ≤ it.args.length ∧ (y.2.1 ++ (nheads y.1 (it.args.drop y.1) y.2.2.1).1, (nheads y.1 (it.args.drop y.1) y.2.2.1).2) = nheads 0 it.args ⟨nx, []⟩ ∧ y.2.2.1.next + Tm.nodess (it.args.drop y.1) ≤ nx + Tm.nodess it.args ∧ y.2.1.length + Tm.nodess (it.args.drop y.1) ≤ Tm.nodess it.args)
     (fun y => it.args.length - y.1) (0, [], ⟨nx, []⟩, .nils, R) _ ⟨rfl, hacc.nil _ _, ⟨f51, f61, f101, f14.2.2.2.2.2.2, f49.2.2.2.2.2.2.2.2⟩, by simp, by simp, by simp, by simp⟩ (by simp -dsimp (maxDischargeDepth := 9) only [go_sem, zA, zB, zC, zD, zE, zF, zG, gS]) (leH_hp (by simp only [hpS, eq_self, implies_true, f5, f6, f10, f51, f61, f101, f14, f49, hm0]) (by simp only [hpS, eq_self, implies_true, f5, f6, f10, f51, f61, f101, f14, f49, hm0])) ?_
    rintro ⟨k, rows, s1, a2, R2⟩ G ⟨hG, hacc2, f2, hk, hrun2, hnx2, hout2⟩
    simp only at hG hacc2 f2 hk hrun2 hnx2 hout2
    subst hG
    simp -dsimp (maxDischargeDepth := 9) only [go_sem, zA, zB, zC, zD, zE, zF, zG, gS]
    refine gif_split (fun q2 => ?_) (fun q2 => ?_)
    ·have q2' : k < it.args.length := by have := of_decide_eq_true q2; omega
     obtain ⟨⟨tk, tn, ti, ta⟩, hx2⟩ := list_at q2'
     have hwk := wrapN (k := k) (by omega)
     rw [drop_at hx2] at hrun2 hnx2 hout2
     simp only [nheads, Tm.nodess] at hrun2 hnx2 hout2
     simp -dsimp (maxDischargeDepth := 9) only [go_sem, zA, zB, zC, zD, zE, zF, zG, gS, q2, hx2, Tm.d, Tm.cs, f2, f5, f6, f10, f14, f49]
     refine newK_hp (fun b17 f17 => ?_)
     simp only [off_cons, off_nil] at f17
     simp -dsimp (maxDischargeDepth := 9) only [go_sem, zA, zB, zC, zD, zE, zF, zG, gS, f2, f5, f6, f10, f14, f49, f17]
     have hsz := nunify_size k (.mk tk tn ti ta) s1
     refine unify_ok _ (.mk tk tn ti ta) (Nat.le_refl _) (Tm.smalls_mem hat _ (List.mem_of_getElem? hx2)) _ b10 b49 s1 ⟨by simp only [hpS, eq_self, implies_true, hne, f2, f5, f6, f10, f14, f49, f17], by simp only [hpS, eq_self, implies_true, hne, f2, f5, f6, f10, f14, f49, f17], hne, by omega⟩ k (by omega) _ (fun a' hrow => ?_)
     generalize hu : nunify k (.mk tk tn ti ta) s1 = u at hrun2 hsz hrow ⊢
     obtain ⟨rs, s3⟩ := u
     simp only at hrun2 hsz hrow
     simp -dsimp (maxDischargeDepth := 9) only [go_sem, zA, zB, zC, zD, zE, zF, zG, gS, hne, f2, f5, f6, f10, f14, f49, f17]
     obtain ⟨hacc', hw', hn'⟩ := hacc2.take (E := 39) (sz := 10) (l := [(b5, .var [.d (.str q.name), .d (.int .i64 ar)]), (b6, .var [.d (.str ⟨#[]⟩), .d (.int .i64 0), .d (.int .i64 0), .d (.int .i64 0), .d (.int .i64 0), .d (.int .i64 0), .d (.int .i64 0), .d (.str ⟨#[]⟩), .d (.int .i64 0), .d (.str ⟨#[]⟩), .d (.int .i64 0), .nils, .nils]), (b10, nvar s1 b49), (b14, .var [.d (.int .i64 it.kind), .d (.str it.name), .d (.slice (it.vars.map .str)), .d (.slice (it.ctors.map Ct.d)), .d (.slice (it.types.map Ty.d)), .d (.slice (it.ways.map .bool)), .d (.int .i64 it.det), .d (.slice (it.args.map Tm.d)), .d x1, .d x2, .d x3, .d x4, .d x5, .d x6, .d x7, .d x8, .d x9, .d x10, .d x11, .d x12]), (b49, nmap s1), (b17, .var [.d (.int .i64 tk), .d (.str tn), .d (.int .i64 ti), .d (.slice (Tm.ds ta))])]) (by simp only [hpS, eq_self, implies_true, hne]) hrow
     rw [hw' [(b5, .var [.d (.str q.name), .d (.int .i64 ar)]), (b6, .var [.d (.str ⟨#[]⟩), .d (.int .i64 0), .d (.int .i64 0), .d (.int .i64 0), .d (.int .i64 0), .d (.int .i64 0), .d (.int .i64 0), .d (.str ⟨#[]⟩), .d (.int .i64 0), .d (.str ⟨#[]⟩), .d (.int .i64 0), .nils, .nils]), (b10, nvar s3 b49), (b14, .var [.d (.int .i64 it.kind), .d (.str it.name), .d (.slice (it.vars.map .str)), .d (.slice (it.ctors.map Ct.d)), .d (.slice (it.types.map Ty.d)), .d (.slice (it.ways.map .bool)), .d (.int .i64 it.det), .d (.slice (it.args.map Tm.d)), .d x1, .d x2, .d x3, .d x4, .d x5, .d x6, .d x7, .d x8, .d x9, .d x10, .d x11, .d x12]), (b49, nmap s3), (b17, .var [.d (.int .i64 tk), .d (.str tn), .d (.int .i64 ti), .d (.slice (Tm.ds ta))])] (fun _ h => h)]
     have f3 : _ ∧ _ ∧ _ ∧ _ ∧ _ := ⟨hn' b5 (by simp only [hpS, eq_self, implies_true, hne, f2, f5, f6, f10, f14, f49, f17]) f2.1, hn' b6 (by simp only [hpS, eq_self, implies_true, hne, f2, f5, f6, f10, f14, f49, f17]) f2.2.1, hn' b10 (by simp only [hpS, eq_self, implies_true, hne, f2, f5, f6, f10, f14, f49, f17]) f2.2.2.1, hn' b14 (by simp only [hpS, eq_self, implies_true, hne, f2, f5, f6, f10, f14, f49, f17]) f2.2.2.2.1, hn' b49 (by simp only [hpS, eq_self, implies_true, hne, f2, f5, f6, f10, f14, f49, f17]) f2.2.2.2.2⟩
     have f173 := hn' b17 (by simp only [hpS, eq_self, implies_true, hne, f2, f5, f6, f10, f14, f49, f17]) f17.2.2.2.2.2.2.2.2.2.2
     generalize withA R2 a' 39 10 (rs.map Fl.d) = R3 at hacc' f3 f173 ⊢
     have hok3 : okK [] R3 [(b5, .var [.d (.str q.name), .d (.int .i64 ar)]), (b6, .var [.d (.str ⟨#[]⟩), .d (.int .i64 0), .d (.int .i64 0), .d (.int .i64 0), .d (.int .i64 0), .d (.int .i64 0), .d (.int .i64 0), .d (.str ⟨#[]⟩), .d (.int .i64 0), .d (.str ⟨#[]⟩), .d (.int .i64 0), .nils, .nils]), (b10, nvar s3 b49), (b14, .var [.d (.int .i64 it.kind), .d (.str it.name), .d (.slice (it.vars.map .str)), .d (.slice (it.ctors.map Ct.d)), .d (.slice (it.types.map Ty.d)), .d (.slice (it.ways.map .bool)), .d (.int .i64 it.det), .d (.slice (it.args.map Tm.d)), .d x1, .d x2, .d x3, .d x4, .d x5, .d x6, .d x7, .d x8, .d x9, .d x10, .d x11, .d x12]), (b49, nmap s3), (b17, .var [.d (.int .i64 tk), .d (.str tn), .d (.int .i64 ti), .d (.slice (Tm.ds ta))])] := by simp only [hpS, eq_self, implies_true, hne, f5, f6, f10, f14, f49, f17, f3, f173]
     rw [AccN.src (pre := []) hacc' hok3]
     have hszs := szs_map (sz := 10) (f := Fl.d) (fun x => x.cs_length) rs
     simp -dsimp (maxDischargeDepth := 9) only [go_sem, zA, zB, zC, zD, zE, zF, zG, gS, hszs]
     refine AccN.appTo (pre := [pcF rs a']) (p := pcF rows a2) (post := [pcF out a]) hacc' hok3 (by simp only [hpS, eq_self, implies_true, hne]) (by simp only [List.length_map]; omega) (fun a4 R4 hacc4 hn4 => ?_)
     have f4' : _ ∧ _ ∧ _ ∧ _ ∧ _ := ⟨hn4 b5 (by simp only [hpS, eq_self, implies_true, hne, f2, f5, f6, f10, f14, f49, f17, f3, f173]) f3.1, hn4 b6 (by simp only [hpS, eq_self, implies_true, hne, f2, f5, f6, f10, f14, f49, f17, f3, f173]) f3.2.1, hn4 b10 (by simp only [hpS, eq_self, implies_true, hne, f2, f5, f6, f10, f14, f49, f17, f3, f173]) f3.2.2.1, hn4 b14 (by simp only [hpS, eq_self, implies_true, hne, f2, f5, f6, f10, f14, f49, f17, f3, f173]) f3.2.2.2.1, hn4 b49 (by simp only [hpS, eq_self, implies_true, hne, f2, f5, f6, f10, f14, f49, f17, f3, f173]) f3.2.2.2.2⟩
     have f174 := hn4 b17 (by simp only [hpS, eq_self, implies_true, hne, f2, f5, f6, f10, f14, f49, f17, f3, f173]) f173
     have hacc5 : AccN H [] [pcF (rows ++ rs) a4, pcF out a] R4 := by
      have := hacc4.without (pre := [])
      simp only [pcF, List.map_append]; exact this
     simp -dsimp (maxDischargeDepth := 9) only [go_sem, zA, zB, zC, zD, zE, zF, zG, gS, hne, f5, f6, f10, f14, f49, f17, f4', f174, hwk]
     refine roundQ_next (k + 1, rows ++ rs, s3, a4, R4) _ ⟨rfl, hacc5, f4', q2', by rw [← hrun2]; simp, by simp only; omega, by simp only [List.length_append]; omega⟩ (by simp only; omega) (by simp -dsimp (maxDischargeDepth := 9) only [go_sem, zA, zB, zC, zD, zE, zF, zG, gS]) (leH_hp (by simp only [hpS, eq_self, implies_true, hne, f5, f6, f10, f14, f49, f17, f4', f174]) (by simp only [hpS, eq_self, implies_true, hne, f5, f6, f10, f14, f49, f17, f4', f174]))
    ·rw [drop_end (by have := of_decide_eq_false q2; omega)] at hrun2 hnx2 hout2
     simp only [nheads, Tm.nodess, List.append_nil] at hrun2 hnx2 hout2
     have hgs := ngoal_size it.body s1
     have hcl2 : nclause it nx = (nwhole (rows ++ (ngoal it.body s1).1), (ngoal it.body s1).2.next) := by simp only [nclause, ← hrun2]
     rw [hcl2] at hrun
     have hcn2 := nclause_next it nx
     rw [hcl2] at hcn2
     simp -dsimp (maxDischargeDepth := 9) only [go_sem, zA, zB, zC, zD, zE, zF, zG, gS, q2, f2, f5, f6, f10, f14, f49]
     rw [← hgd]
     refine goalF_ok _ it.body (Nat.le_refl _) hit2.body _ b10 b49 s1 ⟨by simp only [hpS, eq_self, implies_true, hne, f2, f5, f6, f10, f14, f49], by simp only [hpS, eq_self, implies_true, hne, f2, f5, f6, f10, f14, f49], hne, by omega⟩ (by omega) _ (fun a' hrow => ?_)
     generalize hu : ngoal it.body s1 = u at hrun hgs hrow hcn2 ⊢
     obtain ⟨rs, s3⟩ := u
     simp only at hrun hgs hrow hcn2
     simp -dsimp (maxDischargeDepth := 9) only [go_sem, zA, zB, zC, zD, zE, zF, zG, gS, hne, f2, f5, f6, f10, f14, f49]
     obtain ⟨hacc', hw', hn'⟩ := hacc2.take (E := 39) (sz := 10) (l := [(b5, .var [.d (.str q.name), .d (.int .i64 ar)]), (b6, .var [.d (.str ⟨#[]⟩), .d (.int .i64 0), .d (.int .i64 0), .d (.int .i64 0), .d (.int .i64 0), .d (.int .i64 0), .d (.int .i64 0), .d (.str ⟨#[]⟩), .d (.int .i64 0), .d (.str ⟨#[]⟩), .d (.int .i64 0), .nils, .nils]), (b10, nvar s1 b49), (b14, .var [.d (.int .i64 it.kind), .d (.str it.name), .d (.slice (it.vars.map .str)), .d (.slice (it.ctors.map Ct.d)), .d (.slice (it.types.map Ty.d)), .d (.slice (it.ways.map .bool)), .d (.int .i64 it.det), .d (.slice (it.args.map Tm.d)), .d x1, .d x2, .d x3, .d x4, .d x5, .d x6, .d x7, .d x8, .d x9, .d x10, .d x11, .d x12]), (b49, nmap s1)]) (by simp only [hpS, eq_self, implies_true, hne]) hrow
     rw [hw' [(b5, .var [.d (.str q.name), .d (.int .i64 ar)]), (b6, .var [.d (.str ⟨#[]⟩), .d (.int .i64 0), .d (.int .i64 0), .d (.int .i64 0), .d (.int .i64 0), .d (.int .i64 0), .d (.int .i64 0), .d (.str ⟨#[]⟩), .d (.int .i64 0), .d (.str ⟨#[]⟩), .d (.int .i64 0), .nils, .nils]), (b10, nvar s3 b49), (b14, .var [.d (.int .i64 it.kind), .d (.str it.name), .d (.slice (it.vars.map .str)), .d (.slice (it.ctors.map Ct.d)), .d (.slice (it.types.map Ty.d)), .d (.slice (it.ways.map .bool)), .d (.int .i64 it.det), .d (.slice (it.args.map Tm.d)), .d x1, .d x2, .d x3, .d x4, .d x5, .d x6, .d x7, .d x8, .d x9, .d x10, .d x11, .d x12]), (b49, nmap s3)] (fun _ h => h)]
     have f3 : _ ∧ _ ∧ _ ∧ _ ∧ _ := ⟨hn' b5 (by simp only [hpS, eq_self, implies_true, hne, f2, f5, f6, f10, f14, f49]) f2.1, hn' b6 (by simp only [hpS, eq_self, implies_true, hne, f2, f5, f6, f10, f14, f49]) f2.2.1, hn' b10 (by simp only [hpS, eq_self, implies_true, hne, f2, f5, f6, f10, f14, f49]) f2.2.2.1, hn' b14 (by simp only [hpS, eq_self, implies_true, hne, f2, f5, f6, f10, f14, f49]) f2.2.2.2.1, hn' b49 (by simp only [hpS, eq_self, implies_true, hne, f2, f5, f6, f10, f14, f49]) f2.2.2.2.2⟩
     generalize withA R2 a' 39 10 (rs.map Fl.d) = R3 at hacc' f3 ⊢
     have hok3 : okK [] R3 [(b5, .var [.d (.str q.name), .d (.int .i64 ar)]), (b6, .var [.d (.str ⟨#[]⟩), .d (.int .i64 0), .d (.int .i64 0), .d (.int .i64 0), .d (.int .i64 0), .d (.int .i64 0), .d (.int .i64 0), .d (.str ⟨#[]⟩), .d (.int .i64 0), .d (.str ⟨#[]⟩), .d (.int .i64 0), .nils, .nils]), (b10, nvar s3 b49), (b14, .var [.d (.int .i64 it.kind), .d (.str it.name), .d (.slice (it.vars.map .str)), .d (.slice (it.ctors.map Ct.d)), .d (.slice (it.types.map Ty.d)), .d (.slice (it.ways.map .bool)), .d (.int .i64 it.det), .d (.slice (it.args.map Tm.d)), .d x1, .d x2, .d x3, .d x4, .d x5, .d x6, .d x7, .d x8, .d x9, .d x10, .d x11, .d x12]), (b49, nmap s3)] := by simp only [hpS, eq_self, implies_true, hne, f5, f6, f10, f14, f49, f3]
     rw [AccN.src (pre := []) hacc' hok3]
     have hszs := szs_map (sz := 10) (f := Fl.d) (fun x => x.cs_length) rs
     simp -dsimp (maxDischargeDepth := 9) only [go_sem, zA, zB, zC, zD, zE, zF, zG, gS, hszs]
     refine AccN.appTo (pre := [pcF rs a']) (p := pcF rows a2) (post := [pcF out a]) hacc' hok3 (by simp only [hpS, eq_self, implies_true, hne]) (by simp only [List.length_map]; omega) (fun a4 R4 hacc4 hn4 => ?_)
     have f4' : _ ∧ _ ∧ _ ∧ _ ∧ _ := ⟨hn4 b5 (by simp only [hpS, eq_self, implies_true, hne, f2, f5, f6, f10, f14, f49, f3]) f3.1, hn4 b6 (by simp only [hpS, eq_self, implies_true, hne, f2, f5, f6, f10, f14, f49, f3]) f3.2.1, hn4 b10 (by simp only [hpS, eq_self, implies_true, hne, f2, f5, f6, f10, f14, f49, f3]) f3.2.2.1, hn4 b14 (by simp only [hpS, eq_self, implies_true, hne, f2, f5, f6, f10, f14, f49, f3]) f3.2.2.2.1, hn4 b49 (by simp only [hpS, eq_self, implies_true, hne, f2, f5, f6, f10, f14, f49, f3]) f3.2.2.2.2⟩
     have hacc5 : AccN H [] [pcF (rows ++ rs) a4, pcF out a] R4 := by
      have := hacc4.without (pre := [])
      simp only [pcF, List.map_append]; exact this
     simp -dsimp (maxDischargeDepth := 9) only [go_sem, zA, zB, zC, zD, zE, zF, zG, gS, hne, f5, f6, f10, f14, f49, f4']
     have hok4 : okK [] R4 [(b5, .var [.d (.str q.name), .d (.int .i64 ar)]), (b6, .var [.d (.str ⟨#[]⟩), .d (.int .i64 0), .d (.int .i64 0), .d (.int .i64 0), .d (.int .i64 0), .d (.int .i64 0), .d (.int .i64 0), .d (.str ⟨#[]⟩), .d (.int .i64 0), .d (.str ⟨#[]⟩), .d (.int .i64 0), .nils, .nils]), (b10, nvar s3 b49), (b14, .var [.d (.int .i64 it.kind), .d (.str it.name), .d (.slice (it.vars.map .str)), .d (.slice (it.ctors.map Ct.d)), .d (.slice (it.types.map Ty.d)), .d (.slice (it.ways.map .bool)), .d (.int .i64 it.det), .d (.slice (it.args.map Tm.d)), .d x1, .d x2, .d x3, .d x4, .d x5, .d x6, .d x7, .d x8, .d x9, .d x10, .d x11, .d x12]), (b49, nmap s3)] := by simp only [hpS, eq_self, implies_true, hne, f5, f6, f10, f14, f49, f4']
     refine ACall.frz [true] ?_
     simp only [frzM]
     refine AccN.deep (pre := []) hacc5 hok4 (fun R6 hacc6 hn6 => ?_)
     have f6' : _ ∧ _ ∧ _ ∧ _ ∧ _ := ⟨hn6 b5 f4'.1, hn6 b6 f4'.2.1, hn6 b10 f4'.2.2.1, hn6 b14 f4'.2.2.2.1, hn6 b49 f4'.2.2.2.2⟩
     refine whole_ok (rows ++ rs) (by simp only [List.length_append]; omega) _ _ ?_
     generalize hnw : nwhole (rows ++ rs) = w at hrun ⊢
     obtain ⟨wk, wx, wy, wi, wc, wp, wxs, wgs⟩ := w
     simp -dsimp (maxDischargeDepth := 9) only [go_sem, zA, zB, zC, zD, zE, zF, zG, gS, hne, f5, f6, f10, f14, f49, f6', Fl.d, Fl.cs]
     refine newV_hp (fun b75 v75 f75 w75 => ?_)
     simp only [off_cons, off_nil] at f75
     simp -dsimp (maxDischargeDepth := 9) only [go_sem, zA, zB, zC, zD, zE, zF, zG, gS, hne, f5, f6, f10, f14, f49, f6', f75]
     refine AccN.appTo (pre := []) (p := pcF out a) (post := []) hacc6 (by simp only [hpS, eq_self, implies_true, hne, f5, f6, f10, f14, f49, f6', f75]) (by simp only [hpS, eq_self, implies_true, hne]) (by simp only [List.length_map, List.length_cons, List.length_nil]; omega) (fun a7 R7 hacc7 hn7 => ?_)
     have f7' : _ ∧ _ ∧ _ ∧ _ ∧ _ := ⟨hn7 b5 (by simp only [hpS, eq_self, implies_true, hne, f5, f6, f10, f14, f49, f6', f75]) f6'.1, hn7 b6 (by simp only [hpS, eq_self, implies_true, hne, f5, f6, f10, f14, f49, f6', f75]) f6'.2.1, hn7 b10 (by simp only [hpS, eq_self, implies_true, hne, f5, f6, f10, f14, f49, f6', f75]) f6'.2.2.1, hn7 b14 (by simp only [hpS, eq_self, implies_true, hne, f5, f6, f10, f14, f49, f6', f75]) f6'.2.2.2.1, hn7 b49 (by simp only [hpS, eq_self, implies_true, hne, f5, f6, f10, f14, f49, f6', f75]) f6'.2.2.2.2⟩
     have f757 := hn7 b75 (by simp only [hpS, eq_self, implies_true, hne, f5, f6, f10, f14, f49, f6', f75]) f75.2.2.2.2.2.2.2.2.2.2
     have hacc8 : AccN H [] [pcF (out ++ [(.mk wk wx wy wi wc wp wxs wgs)]) a7] R7 := by
      simp only [pcF, List.map_append]; exact hacc7
     simp -dsimp (maxDischargeDepth := 9) only [go_sem, zA, zB, zC, zD, zE, zF, zG, gS, hne, f5, f6, f10, f14, f49, f75, f7', f757, hwj]
     refine roundQ_next (j + 1, out ++ [(.mk wk wx wy wi wc wp wxs wgs)], s3.next, a7, .mp b49, R7) _ ⟨rfl, hacc8, f7'.1, f7'.2.1, f7'.2.2.1, q1', by rw [← hrun]; simp, by simp only; omega, by simp [hout]⟩ (by simp only; omega) (by simp -dsimp (maxDischargeDepth := 9) only [go_sem, zA, zB, zC, zD, zE, zF, zG, gS]) (leH_hp (by simp only [hpS, eq_self, implies_true, hne, f5, f6, f10, f14, f49, f75, f7', f757]) (by simp only [hpS, eq_self, implies_true, hne, f5, f6, f10, f14, f49, f75, f7', f757]))
   ·rw [drop_end (by have := of_decide_eq_false q1; omega)] at hrun hnx
    simp only [nclauses, sumNodes, List.append_nil] at hrun hnx
    rw [← hrun] at hK
    simp only at hK
    simp -dsimp (maxDischargeDepth := 9) only [go_sem, zA, zB, zC, zD, zE, zF, zG, gS, q1, f5, f6, f10, f51, f61, f101]
    refine gif_split (fun q2 => ?_) (fun q2 => ?_)
    ·have e2 : 200 < nx := by have := of_decide_eq_true q2; omega
     rw [if_pos e2] at hK
     simp -dsimp (maxDischargeDepth := 9) only [go_sem, zA, zB, zC, zD, zE, zF, zG, gS, q2, f5, f6, f10, f51, f61, f101, hg2]
     refine retW_tup [true, true] ?_
     simp -dsimp (maxDischargeDepth := 9) only [go_sem, zA, zB, zC, zD, zE, zF, zG, gS, frzM]
     exact retW_drop (G := H) (leH_hp02 hacc.le (by simp only [hpS, eq_self, implies_true, f5, f6, f10, f51, f61, f101])) (retW_is hK)
    ·have e2 : ¬ 200 < nx := by have := of_decide_eq_false q2; omega
     rw [if_neg e2] at hK
     simp -dsimp (maxDischargeDepth := 9) only [go_sem, zA, zB, zC, zD, zE, zF, zG, gS, q2, f5, f6, f10, f51, f61, f101]
     have hol : out.length ≤ 1048576 := by omega
     rcases hacc.mid (pre := []) with ⟨hout0, ha0⟩ | ⟨b, v, ha0, h1, h2, hv, hH⟩
     ·simp only [pcF] at ha0
      subst ha0
      have ho0 : out = [] := by simpa [pcF] using hout0
      subst ho0
      simp only [FP.d, FP.cs, har, nbody] at hK
      repeat' (refine And.intro ?_ ?_)
      all_goals
       refine newK_hp (fun b18 f18 => ?_)
       simp only [off_cons, off_nil] at f18
       have q18 := hacc.le.free f18.2.2.2.2.2.2
       simp -dsimp (maxDischargeDepth := 9) only [go_sem, zA, zB, zC, zD, zE, zF, zG, gS, f5, f6, f10, f51, f61, f101, f18]
       refine retW_tup [true, true] ?_
       simp -dsimp (maxDischargeDepth := 9) only [go_sem, zA, zB, zC, zD, zE, zF, zG, gS, frzM]
       exact retW_drop (G := H) (leH_hp02 hacc.le (by simp only [hpS, eq_self, implies_true, f5, f6, f10, f51, f61, f101, f18, q18])) (retW_is hK)
     ·simp only [pcF] at hH ha0
      subst ha0
      have q5 := eqn_some hH f51
      have q6 := eqn_some hH f61
      have q10 := eqn_some hH f101
      repeat' (refine And.intro ?_ ?_)
      all_goals
       refine newK_hp (fun b18 f18 => ?_)
       simp only [off_cons, off_nil] at f18
       have q18 := eqn_some hH f18.2.2.2.2.2.2
       have q19 := hacc.le.free f18.2.2.2.2.2.2
       simp -dsimp (maxDischargeDepth := 9) only [go_sem, zA, zB, zC, zD, zE, zF, zG, gS, f5, f6, f10, f51, f61, f101, f18, hH, q5, q6, q10, q18, q19, h2]
       refine gif_split (fun q3 => ?_) (fun q3 => ?_)
       ·have e3 : out = [] := List.length_eq_zero_iff.1 (by have := of_decide_eq_true q3; omega)
        subst e3
        simp only [FP.d, FP.cs, har, nbody] at hK
        simp -dsimp (maxDischargeDepth := 9) only [go_sem, zA, zB, zC, zD, zE, zF, zG, gS, q3, f5, f6, f10, f51, f61, f101, f18, hH, q5, q6, q10, q18, q19, h2]
        refine retW_tup [true, true] ?_
        simp -dsimp (maxDischargeDepth := 9) only [go_sem, zA, zB, zC, zD, zE, zF, zG, gS, frzM]
        exact retW_drop (G := H) (leH_hp02 hacc.le (by simp only [hpS, eq_self, implies_true, f5, f6, f10, f51, f61, f101, f18, hH, q5, q6, q10, q18, q19, h2])) (retW_is hK)
       ·have e3 : out.length ≠ 0 := by have := of_decide_eq_false q3; omega
        simp -dsimp (maxDischargeDepth := 9) only [go_sem, zA, zB, zC, zD, zE, zF, zG, gS, q3, f5, f6, f10, f51, f61, f101, f18, hH, q5, q6, q10, q18, q19, h2]
        refine gif_split (fun q4 => ?_) (fun q4 => ?_)
        ·obtain ⟨⟨gk, gx, gy, gi, gc, gp, gxs, ggs⟩, rfl⟩ : ∃ g, out = [g] := List.length_eq_one_iff.1 (by have := of_decide_eq_true q4; omega)
         simp only [FP.d, FP.cs, har, nbody, Fl.cs] at hK
         simp only [List.map_cons, List.map_nil, Fl.d, Fl.cs] at hH
         simp -dsimp (maxDischargeDepth := 9) only [go_sem, zA, zB, zC, zD, zE, zF, zG, gS, q4, f5, f6, f10, f51, f61, f101, f18, hH, q5, q6, q10, q18, q19, h2]
         refine andK_split (by decide) ?_
         simp -dsimp (maxDischargeDepth := 9) only [go_sem, zA, zB, zC, zD, zE, zF, zG, gS, f5, f6, f10, f51, f61, f101, f18, hH, q5, q6, q10, q18, q19, h2, Int.toNat_zero, List.getElem?_cons_zero]
         refine retW_tup [true, true] ?_
         simp -dsimp (maxDischargeDepth := 9) only [go_sem, zA, zB, zC, zD, zE, zF, zG, gS, frzM]
         exact retW_drop (G := H) (leH_hp02 hacc.le (by simp only [hpS, eq_self, implies_true, f5, f6, f10, f51, f61, f101, f18, hH, q5, q6, q10, q18, q19, h2])) (retW_is hK)
        ·have e4 : out.length ≠ 1 := by have := of_decide_eq_false q4; omega
         have ew : nbody out = fRow 8 0 out := by
          rcases out with _ | ⟨a1, _ | ⟨a2, gs⟩⟩
          ·simp at e3
          ·simp at e4
          ·rfl
         rw [ew] at hK
         simp only [FP.d, FP.cs, har, fRow, Fl.cs, Fl.ds_map, ky0, List.map_nil] at hK
         simp -dsimp (maxDischargeDepth := 9) only [go_sem, zA, zB, zC, zD, zE, zF, zG, gS, q4, f5, f6, f10, f51, f61, f101, f18, hH, q5, q6, q10, q18, q19, h2]
         refine retW_tup [true, true] ?_
         simp -dsimp (maxDischargeDepth := 9) only [go_sem, zA, zB, zC, zD, zE, zF, zG, gS, frzM, f5, f6, f10, f51, f61, f101, f18, hH, q5, q6, q10, q18, q19, h2]
         exact retW_drop (G := H) (leH_hp02 hacc.le (by simp only [hpS, eq_self, implies_true, f5, f6, f10, f51, f61, f101, f18, hH, q5, q6, q10, q18, q19, h2])) (retW_is hK)
end Go.Aug

/- Flat goals: a goal's own variables. -/
namespace Go.Aug
open Go.Proofs
set_option maxRecDepth 100000
set_option linter.unusedSimpArgs false
attribute [local irreducible] hid andK letA onSome onVar onArr arrOnly onInt onBool onFunc onTup idxA ldV ldD addO appTo fillL slA srcK nilQ retW gif sgd sguard svc sops sdops sagain aopO aLoad aStore aBin aUn aConv aLen aIndexAddr aIndex aIndexAddrS aIndexS aSlice aAppend aBuild aBuildSlice aMakeSlice aField aFieldOf aCallOp deepK deepL frzM putE newK newV growV ACall roundQ thenQ inBlockQ sret cnd szs nilC onMap onRow aLookup aMapUpdate aMakeMap
attribute [local go_sem] Int.natCast_zero
def nown : Fl → List Int
 | .mk k x y _ _ _ xs _ => if k = 3 then [x, y] else if k = 4 then [x] else if k = 10 then [x] else if k = 11 then [x] else if k = 5 then x :: xs else if k = 6 then xs else []
end Go.Aug

/- A bound on what is read: each node takes a place. -/
namespace Go.Aug
open Go.Proofs
set_option maxRecDepth 100000
set_option linter.unusedSimpArgs false
theorem nodess_append : ∀ (xs ys : List Tm), Tm.nodess (xs ++ ys) = Tm.nodess xs + Tm.nodess ys
 | [], ys => by simp [Tm.nodess]
 | x :: xs, ys => by simp only [List.cons_append, Tm.nodess, nodess_append xs ys]; omega
theorem rargs_nodes {p : RdS → Tm × RdS} {l : List Tok} (hp : ∀ s, (p s).1.nodes + s.pos ≤ 1 + (p s).2.pos) : ∀ (k : Nat) (xs : List Tm) (s : RdS), Tm.nodess (rargs p l k xs s).1 + s.pos ≤ Tm.nodess xs + (rargs p l k xs s).2.pos
 | 0, xs, s => Nat.le_refl _
 | k + 1, xs, s => by
  simp only [rargs]
  split
  ·split
   ·rename_i h1 h2
    have hm := (rmore_true h2).2.1
    have h3 := hp (rmore l xs.length s).2
    have h4 := rargs_nodes (l := l) hp k (xs ++ [(p (rmore l xs.length s).2).1]) (p (rmore l xs.length s).2).2
    rw [nodess_append] at h4
    simp only [Tm.nodess] at h4
    omega
   ·have := rmore_ge l xs.length s; show Tm.nodess xs + s.pos ≤ Tm.nodess xs + (rmore l xs.length s).2.pos; omega
  ·exact Nat.le_refl _
theorem rterm_nodes {l : List Tok} : ∀ (f n : Nat) (s : RdS), (rterm f l n s).1.nodes + s.pos ≤ 1 + (rterm f l n s).2.pos
 | 0, _, s => Nat.le_refl _
 | f + 1, n, s => by
  have hn := rnest_pos l n s
  have hw := rword_ge l 1 (rnest l n s)
  have h1 := rargs_nodes (l := l) (rterm_nodes (l := l) f (n + 1)) 10 [] (rword l 1 (rnest l n s)).2
  simp only [Tm.nodess] at h1
  simp only [rterm]
  split
  ·split
   ·simp only [Tm.nodes, Tm.nodess]; omega
   ·split
    ·simp only [Tm.nodes, Tm.nodess]; omega
    ·simp only [Tm.nodes]; omega
  ·simp only [Tm.nodes]; omega
theorem gnodess_append : ∀ (xs ys : List Gl), Gl.nodess (xs ++ ys) = Gl.nodess xs + Gl.nodess ys
 | [], ys => by simp [Gl.nodess]
 | x :: xs, ys => by simp only [List.cons_append, Gl.nodess, gnodess_append xs ys]; omega
theorem gnodes_none (k : Int) (n : ByteArray) (xs : List Tm) (gs : List Gl) : (Gl.mk k .none .none n xs gs).nodes = 3 + Tm.nodess xs + Gl.nodess gs := by simp only [Gl.nodes, Tm.none, Tm.nodes, Tm.nodess]
theorem headD_nodes : ∀ gs : List Gl, (gs.headD default).nodes ≤ 3 + Gl.nodess gs
 | [] => by show (Gl.mk 0 .none .none ⟨#[]⟩ [] []).nodes ≤ _; rw [gnodes_none]; simp [Tm.nodess, Gl.nodess]
 | g :: gs => by simp only [List.headD_cons, Gl.nodess]; omega
theorem headD_nodes1 {gs : List Gl} (h : gs ≠ []) : (gs.headD default).nodes ≤ Gl.nodess gs := by
 cases gs with
 | nil => exact absurd rfl h
 | cons g gs => simp only [List.headD_cons, Gl.nodess]; omega
theorem rands_nodes {p : RdS → Gl × RdS} {l : List Tok} (hp : ∀ s, (p s).1.nodes + 6 * s.pos ≤ 3 + 6 * (p s).2.pos) : ∀ (k : Nat) (gs : List Gl) (s : RdS), Gl.nodess (rands p l k gs s).1 + 6 * s.pos ≤ Gl.nodess gs + 6 * (rands p l k gs s).2.pos
 | 0, gs, s => Nat.le_refl _
 | k + 1, gs, s => by
  simp only [rands]
  split
  ·rename_i h
   have hm := (rgot_true h).2.1
   have h3 := hp (rgot l kComma s).2
   have h4 := rands_nodes (l := l) hp k (gs ++ [(p (rgot l kComma s).2).1]) (p (rgot l kComma s).2).2
   rw [gnodess_append] at h4
   simp only [Gl.nodess] at h4
   omega
  ·exact Nat.le_refl _
theorem rands_ne {p : RdS → Gl × RdS} {l : List Tok} : ∀ (k : Nat) (gs : List Gl) (s : RdS), gs ≠ [] → (rands p l k gs s).1 ≠ []
 | 0, gs, s, h => h
 | k + 1, gs, s, h => by
  simp only [rands]
  split
  ·exact rands_ne k _ _ (by simp)
  ·exact h
theorem rway_nodes {p : RdS → Gl × RdS} {l : List Tok} (hp : ∀ s, (p s).1.nodes + 6 * s.pos ≤ 3 + 6 * (p s).2.pos) (s : RdS) : (rway p l s).1.nodes + 6 * s.pos ≤ 6 + 6 * (rway p l s).2.pos := by
 have h1 := rands_nodes (l := l) hp l.length [(p s).1] (p s).2
 have h2 := hp s
 simp only [Gl.nodess] at h1
 simp only [rway, allOf]
 split
 ·rw [gnodes_none]; simp only [Tm.nodess]; omega
 ·have := headD_nodes1 (rands_ne (p := p) (l := l) l.length [(p s).1] (p s).2 (by simp)); omega
theorem rors_nodes {p : RdS → Gl × RdS} {l : List Tok} (hp : ∀ s, (p s).1.nodes + 6 * s.pos ≤ 3 + 6 * (p s).2.pos) : ∀ (k : Nat) (os : List Gl) (s : RdS), Gl.nodess (rors p l k os s).1 + 6 * s.pos ≤ Gl.nodess os + 6 + 6 * (rors p l k os s).2.pos
 | 0, os, s => by simp only [rors]; omega
 | k + 1, os, s => by
  have hw := rway_nodes (l := l) hp s
  simp only [rors]
  split
  ·split
   ·rename_i h
    have hm := (rgot_true h).2.1
    have h4 := rors_nodes (l := l) hp k (os ++ [(rway p l s).1]) (rgot l kSemi (rway p l s).2).2
    rw [gnodess_append] at h4
    simp only [Gl.nodess] at h4
    omega
   ·show Gl.nodess (os ++ [(rway p l s).1]) + 6 * s.pos ≤ Gl.nodess os + 6 + 6 * (rway p l s).2.pos
    rw [gnodess_append]
    simp only [Gl.nodess]; omega
  ·show Gl.nodess os + 6 * s.pos ≤ Gl.nodess os + 6 + 6 * s.pos
   omega
theorem rgoalW_nodes {p : RdS → Gl × RdS} {l : List Tok} (hp : ∀ s, (p s).1.nodes + 6 * s.pos ≤ 3 + 6 * (p s).2.pos) (s : RdS) : (rgoalW p l s).1.nodes + 6 * s.pos ≤ 9 + 6 * (rgoalW p l s).2.pos := by
 have h := rors_nodes (l := l) hp (l.length + 1) [] s
 simp only [Gl.nodess] at h
 simp only [rgoalW, anyOf]
 split
 ·have := headD_nodes (rors p l (l.length + 1) [] s).1; omega
 ·rw [gnodes_none]; simp only [Tm.nodess]; omega
theorem Tm.nodes_args (t : Tm) : t.nodes = 1 + Tm.nodess t.args := by cases t; rfl
theorem rprim_nodes {l : List Tok} : ∀ (f n : Nat) (s : RdS), (rprim f l n s).1.nodes + 6 * s.pos ≤ 3 + 6 * (rprim f l n s).2.pos
 | 0, _, s => by show (Gl.mk 0 .none .none ⟨#[]⟩ [] []).nodes + _ ≤ _; rw [gnodes_none]; simp only [Tm.nodess, Gl.nodess]; exact Nat.le_refl _
 | f + 1, n, s0 => by
  have hn := rnest_pos l n s0
  have ih := rprim_nodes (l := l) f (n + 1)
  simp only [rprim]
  generalize rnest l n s0 = s at hn ⊢
  split
  ·rename_i h; have hm := (rgot_true h).2.1; simp only [gnodes_none, Tm.nodess, Gl.nodess]; omega
  split
  ·rename_i h; have hm := (rgot_true h).2.1; simp only [gnodes_none, Tm.nodess, Gl.nodess]; omega
  split
  ·rename_i h; have hm := (rgot_true h).2.1; have h1 := ih (rgot l kNot s).2; simp only [gnodes_none, Tm.nodess, Gl.nodess]; omega
  split
  ·rename_i h; have hm := (rgot_true h).2.1; have h1 := rterm_nodes (l := l) f (n + 1) (rgot l kThrow s).2; simp only [Gl.nodes, Tm.none, Tm.nodes, Tm.nodess, Gl.nodess]; omega
  split
  ·rename_i h
   have hm := (rgot_true h).2.1
   have h1 := ih (rgot l kTry s).2
   have h2 := rneed_ge l kCatch (rprim f l (n + 1) (rgot l kTry s).2).2
   have h3 := rword_ge l 2 (rneed l kCatch (rprim f l (n + 1) (rgot l kTry s).2).2)
   have h4 := rneed_ge l kThen (rword l 2 (rneed l kCatch (rprim f l (n + 1) (rgot l kTry s).2).2)).2
   have h5 := ih (rneed l kThen (rword l 2 (rneed l kCatch (rprim f l (n + 1) (rgot l kTry s).2).2)).2)
   simp only [rtry, gnodes_none, Tm.nodess, Gl.nodess]; omega
  split
  ·rename_i h
   have hm := (rgot_true h).2.1
   have h1 := rgoalW_nodes (l := l) ih (rgot l kOpen s).2
   have h2 := rneed_ge l kClose (rgoalW (rprim f l (n + 1)) l (rgot l kOpen s).2).2
   show (rgoalW (rprim f l (n + 1)) l (rgot l kOpen s).2).1.nodes + _ ≤ 3 + 6 * (rneed l kClose (rgoalW (rprim f l (n + 1)) l (rgot l kOpen s).2).2).pos
   omega
  ·have h1 := rterm_nodes (l := l) f (n + 1) s
   have h7 := (rterm f l (n + 1) s).1.nodes_pos
   simp only [rcall]
   split
   ·rename_i h
    have hm := (rgot_true h).2.1
    have h2 := rterm_nodes (l := l) f (n + 1) (rgot l kEq (rterm f l (n + 1) s).2).2
    have h5 := (rterm f l (n + 1) s).1.nodes_pos
    have h6 := (rterm f l (n + 1) (rgot l kEq (rterm f l (n + 1) s).2).2).1.nodes_pos
    simp only [Gl.nodes, Tm.nodess, Gl.nodess]; omega
   ·have h3 := Tm.nodes_args (rterm f l (n + 1) s).1
    simp only [gnodes_none, Gl.nodess]
    split
    ·omega
    ·rw [rfail_pos]; omega
theorem rgoal_nodes {l : List Tok} (f n : Nat) (s : RdS) : (rgoal f l n s).1.nodes + 6 * s.pos ≤ 9 + 6 * (rgoal f l n s).2.pos := rgoalW_nodes (fun s => rprim_nodes f n s) s
theorem ritem_nodes {l : List Tok} (s : RdS) : (ritem l s).1.nodes + 6 * s.pos ≤ 9 + 6 * (ritem l s).2.pos := by
 have hs := (ritem_steps l).ge s
 have z : ∀ it : It, it.args = [] → it.body = .mk 0 .none .none ⟨#[]⟩ [] [] → it.nodes = 3 := fun it h1 h2 => by rw [It.nodes, h1, h2]; rfl
 unfold ritem at hs ⊢
 split
 ·rename_i h; rw [if_pos h] at hs; rw [z _ rfl rfl]; omega
 split
 ·rename_i h0 h; rw [if_neg h0, if_pos h] at hs; rw [z _ rfl rfl]; omega
 split
 ·rename_i h0 h1 h; rw [if_neg h0, if_neg h1, if_pos h] at hs; rw [z _ rfl rfl]; omega
 ·have hw := rword_ge l 1 s
  have h1 := rargs_nodes (l := l) (rterm_nodes (l := l) 66 1) 10 [] (rword l 1 s).2
  simp only [Tm.nodess] at h1
  simp only [ritClause]
  split
  ·rename_i h
   have hm := (rgot_true h).2.1
   have h2 := rgoal_nodes (l := l) 66 1 (rgot l kIf (rargs (rterm 66 l 1) l 10 [] (rword l 1 s).2).2).2
   simp only [It.nodes]; omega
  ·simp only [It.nodes, gnodes_none, Tm.nodess, Gl.nodess]; omega
end Go.Aug
