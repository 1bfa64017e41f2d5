/- The contract of the reference's goals; conditions stand in it. -/
import Derived.Test.YtejfagblpbmokaaDoorFlatFour
set_option linter.all false
set_option linter.unusedVariables false
set_option linter.unusedSimpArgs false
set_option linter.unusedSectionVars false

/- The reference's flat goals: a goal. -/
namespace Go.Aug
open Nat renaming reduceBEq → zA, reduceLT → zB, reduceAdd → zC, reduceSub → zD, reduceMul → zE, reduceLeDiff → zF
open Int renaming reduceLE → zG
open Go.Proofs
set_option maxRecDepth 100000
set_option linter.unusedSimpArgs false
attribute [local irreducible] hid andK letA onSome onVar onArr arrOnly onInt onBool onFunc onTup idxA ldV ldD addO appTo fillL slA srcK nilQ retW gif sgd sguard svc sops sdops sagain aopO aLoad aStore aBin aUn aConv aLen aIndexAddr aIndex aIndexAddrS aIndexS aSlice aAppend aBuild aBuildSlice aMakeSlice aField aFieldOf aCallOp deepK deepL frzM putE newK newV growV ACall roundQ thenQ inBlockQ sret cnd szs nilC onMap onRow aLookup aMapUpdate aMakeMap
attribute [local go_sem] Int.natCast_zero
theorem Gl.nodess_mem {t : Gl} : ∀ {ts : List Gl}, t ∈ ts → t.nodes ≤ Gl.nodess ts
 | _ :: _, .head _ => by simp only [Gl.nodess]; omega
 | _ :: _, .tail _ h => by have := Gl.nodess_mem h; simp only [Gl.nodess]; omega
set_option maxHeartbeats 16000000 in
theorem goal05_ok {eb : EbG} : ∀ (m : Nat) (g : Gl), g.nodes ≤ m → g.small → ∀ (H0 R : Heap) (r : Nat) (s : NS) (a1 a2 : A) (_ : AccN H0 [r] (cps s a1 a2) R) (_ : s.next + g.nodes ≤ 1099511627772) (_ : s.names.length + g.nodes ≤ 1099511627772) (K : A → Heap → Prop)
  (_ : ∀ a a1' a2' R', AccN H0 [r] (pcF (ngoal g s).1 a :: cps (ngoal g s).2 a1' a2') R' → K a (hp R' [(r, cvar (ngoal g s).2 a1' a2')])),
  ACall Tryd.prog (seatV eb) 75 [.ref r 0, .d g.d] (hp R [(r, cvar s a1 a2)]) K
 | 0, g, hm, _, _, _, _, _, _, _, _, _, _, _, _ => by have := g.nodes_pos; omega
 | m + 1, .mk k (.mk k1 n1 i1 xs1) (.mk k2 n2 i2 xs2) n xs gs, hm, hs, H0, R, r, s, a1, a2, hacc, hlim, hlim2, K, hK => by
  simp only [Gl.small] at hs
  obtain ⟨hsa, hsb, hxl, hsx, hgl, hsg⟩ := hs
  simp only [Gl.nodes] at hlim hlim2 hm
  have hpa := (Tm.mk k1 n1 i1 xs1).nodes_pos
  have hpb := (Tm.mk k2 n2 i2 xs2).nodes_pos
  refine ACall.by mixed fn75 (by simp) ?_
  conv in s75 => cbv
  refine svc_start ?_
  simp -dsimp (maxDischargeDepth := 9) only [go_sem, zA, zB, zC, zD, zE, zF, zG, gS, Gl.d, Gl.cs, Tm.cs, List.cons_append, List.nil_append, Gl.ds_map]
  refine newK_hp (fun b3 f3 => ?_)
  simp only [off_cons, off_nil] at f3
  simp -dsimp (maxDischargeDepth := 9) only [go_sem, zA, zB, zC, zD, zE, zF, zG, gS, f3]
  refine newV_hp (fun b23 v23 f23 w23 => ?_)
  simp only [off_cons, off_nil] at f23
  obtain ⟨R1, e1, hacc1, hb3⟩ := row_in (H := H0) (E := 39) (sz := 10) hacc (show off R [(r, cvar s a1 a2), (b3, .var [.d (.int .i64 k), .d (.int .i64 k1), .d (.str n1), .d (.int .i64 i1), .d (.slice (Tm.ds xs1)), .d (.int .i64 k2), .d (.str n2), .d (.int .i64 i2), .d (.slice (Tm.ds xs2)), .d (.str n), .d (.slice (xs.map Tm.d)), .d (.slice (gs.map Gl.d))])] b23 from by simp only [hpS, eq_self, implies_true, f23]) w23
  simp -dsimp (maxDischargeDepth := 9) only [go_sem, zA, zB, zC, zD, zE, zF, zG, gS, f3, f23]
  rw [e1]
  have h3 := hb3 f3.2.2
  clear e1
  generalize A.own b23 v23 = a0 at hacc1 ⊢
  have hacc0 : AccN H0 [r] (cps s a1 a2 ++ [pcF [] a0]) R1 := hacc1
  refine gif_split (fun g1 => ?_) (fun g1 => ?_)
  ·have e : k = 2 := of_decide_eq_true g1
   have hg : ngoal (.mk k (.mk k1 n1 i1 xs1) (.mk k2 n2 i2 xs2) n xs gs) s = ([fRow 2 0 []], s) := by rw [e]; simp [ngoal]
   rw [hg] at hK
   simp -dsimp (maxDischargeDepth := 9) only [go_sem, zA, zB, zC, zD, zE, zF, zG, gS, g1, f3, h3]
   have hd := fRow_d 2 0 []
   simp only [List.map_nil] at hd
   refine newV_hp (fun b30 v30 f30 w30 => ?_)
   simp only [off_cons, off_nil] at f30
   simp -dsimp (maxDischargeDepth := 9) only [go_sem, zA, zB, zC, zD, zE, zF, zG, gS, f3, h3, f30]
   rw [← hd]
   refine AccN.appTo (pre := cps s a1 a2) (p := pcF [] a0) (post := []) (ns := [(fRow 2 0 []).d]) hacc0 (by simp only [hpS, eq_self, implies_true, f3, h3, f30]) (by simp only [hpS, eq_self, implies_true, ]) (by simp only [List.length_map, List.length_cons, List.length_nil, List.length_append]; omega) (fun a' R2 hacc2 nhacc2 => ?_)

   have k3 := nhacc2 b3 (by simp only [hpS, eq_self, implies_true, f3]) h3
   have k30 := nhacc2 b30 (by simp only [hpS, eq_self, implies_true, f30]) f30.2.2.2.2
   simp -dsimp (maxDischargeDepth := 9) only [go_sem, zA, zB, zC, zD, zE, zF, zG, gS, f3, f30, k3, k30]
   refine retW_drop (G := hp R2 [(r, cvar s a1 a2)]) (leH_hp (by simp only [hpS, eq_self, implies_true, f3, f30, k3, k30]) (by simp only [hpS, eq_self, implies_true, f3, f30, k3, k30])) (retW_is (hK a' a1 a2 R2 ?_))
   exact AccN.rot (ys := [pcF [fRow 2 0 []] a']) hacc2
  simp -dsimp (maxDischargeDepth := 9) only [go_sem, zA, zB, zC, zD, zE, zF, zG, gS, g1, f3, h3]
  refine gif_split (fun g2 => ?_) (fun g2 => ?_)
  ·have e : k = 3 := of_decide_eq_true g2
   have hg : ngoal (.mk k (.mk k1 n1 i1 xs1) (.mk k2 n2 i2 xs2) n xs gs) s = nequal (.mk k1 n1 i1 xs1) (.mk k2 n2 i2 xs2) s := by rw [e]; simp [ngoal]
   rw [hg] at hK
   simp -dsimp (maxDischargeDepth := 9) only [go_sem, zA, zB, zC, zD, zE, zF, zG, gS, g2, f3, h3]
   refine gif_split (fun v1 => ?_) (fun v1 => ?_)
   ·have e1 : k1 = 1 := of_decide_eq_true v1
    simp -dsimp (maxDischargeDepth := 9) only [go_sem, zA, zB, zC, zD, zE, zF, zG, gS, v1, f3, h3]
    refine gif_split (fun v2 => ?_) (fun v2 => ?_)
    ·have e2 : k2 = 1 := of_decide_eq_true v2
     simp -dsimp (maxDischargeDepth := 9) only [go_sem, zA, zB, zC, zD, zE, zF, zG, gS, v2, f3, h3]
     refine gif_split (fun w1 => ?_) (fun w1 => ?_)
     ·have u1 : ¬ n1 = kUnder := by simpa [kUnder] using w1
      simp -dsimp (maxDischargeDepth := 9) only [go_sem, zA, zB, zC, zD, zE, zF, zG, gS, w1, f3, h3]
      refine gif_split (fun w2 => ?_) (fun w2 => ?_)
      ·have u2 : ¬ n2 = kUnder := by simpa [kUnder] using w2
       simp -dsimp (maxDischargeDepth := 9) only [go_sem, zA, zB, zC, zD, zE, zF, zG, gS, w2, f3, h3]
       obtain ⟨HH1, RR1, eq1, hs1, back1⟩ := accN_sub (r := r) (qs := cps s a1 a2) (ps := [pcF [] a0]) (o := cvar s a1 a2) (l := [(b3, .var [.d (.int .i64 k), .d (.int .i64 k1), .d (.str n1), .d (.int .i64 i1), .d (.slice (Tm.ds xs1)), .d (.int .i64 k2), .d (.str n2), .d (.int .i64 i2), .d (.slice (Tm.ds xs2)), .d (.str n), .d (.slice (xs.map Tm.d)), .d (.slice (gs.map Gl.d))])]) hacc0 (by simp only [hpS, eq_self, implies_true, f3, h3]) (by simp only [hpS, eq_self, implies_true, ]) (by simp only [hpS, eq_self, implies_true, f3, h3])
       rw [eq1]
       refine number05_ok ⟨hs1, by omega, by omega⟩ n1 _ (fun c1 c2 RA1 hac1 => ?_)
       have nn1 := nnumber_names n1 s
       have nx1 := nnumber_next n1 s
       have q1 : nnumber n1 s = ((nnumber n1 s).1, (nnumber n1 s).2) := rfl
       generalize (nnumber n1 s).1 = v1 at q1 hac1 ⊢
       generalize (nnumber n1 s).2 = s1 at q1 hac1 nn1 nx1 ⊢
       obtain ⟨RB1, hbc1, eb1, hn1⟩ := back1 _ _ hac1
       rw [eb1]
       have b31 := hn1 b3 (by simp only [hpS, eq_self, implies_true, f3]) h3
       simp -dsimp (maxDischargeDepth := 9) only [go_sem, zA, zB, zC, zD, zE, zF, zG, gS, f3, b31]
       obtain ⟨HH2, RR2, eq2, hs2, back2⟩ := accN_sub (r := r) (qs := cps s1 c1 c2) (ps := [pcF [] a0]) (o := cvar s1 c1 c2) (l := [(b3, .var [.d (.int .i64 k), .d (.int .i64 k1), .d (.str n1), .d (.int .i64 i1), .d (.slice (Tm.ds xs1)), .d (.int .i64 k2), .d (.str n2), .d (.int .i64 i2), .d (.slice (Tm.ds xs2)), .d (.str n), .d (.slice (xs.map Tm.d)), .d (.slice (gs.map Gl.d))])]) (by simpa using hbc1) (by simp only [hpS, eq_self, implies_true, f3, b31]) (by simp only [hpS, eq_self, implies_true, ]) (by simp only [hpS, eq_self, implies_true, f3, b31])
       rw [eq2]
       refine number05_ok ⟨hs2, by omega, by omega⟩ n2 _ (fun d1 d2 RA2 hac2 => ?_)
       have nn2 := nnumber_names n2 s1
       have nx2 := nnumber_next n2 s1
       have q2 : nnumber n2 s1 = ((nnumber n2 s1).1, (nnumber n2 s1).2) := rfl
       generalize (nnumber n2 s1).1 = v2 at q2 hac2 ⊢
       generalize (nnumber n2 s1).2 = s2 at q2 hac2 nn2 nx2 ⊢
       obtain ⟨RB2, hbc2, eb2, hn2⟩ := back2 _ _ hac2
       rw [eb2]
       have b32 := hn2 b3 (by simp only [hpS, eq_self, implies_true, f3]) b31
       simp -dsimp (maxDischargeDepth := 9) only [go_sem, zA, zB, zC, zD, zE, zF, zG, gS, f3, b32]
       have hd := fSame_d (v1 : Int) (v2 : Int)
       refine newV_hp (fun b70 v70 f70 w70 => ?_)
       simp only [off_cons, off_nil] at f70
       simp -dsimp (maxDischargeDepth := 9) only [go_sem, zA, zB, zC, zD, zE, zF, zG, gS, f3, b32, f70]
       rw [← hd]
       refine AccN.appTo (pre := cps s2 d1 d2) (p := pcF [] a0) (post := []) (ns := [(fSame (v1 : Int) (v2 : Int)).d]) (by simpa using hbc2) (by simp only [hpS, eq_self, implies_true, f3, b32, f70]) (by simp only [hpS, eq_self, implies_true, ]) (by simp only [List.length_map, List.length_cons, List.length_nil, List.length_append]; omega) (fun a' R2 hacc2 nhacc2 => ?_)
       have k3 := nhacc2 b3 (by simp only [hpS, eq_self, implies_true, f3]) b32
       have k70 := nhacc2 b70 (by simp only [hpS, eq_self, implies_true, f70]) f70.2.2.2.2
       simp -dsimp (maxDischargeDepth := 9) only [go_sem, zA, zB, zC, zD, zE, zF, zG, gS, f3, f70, k3, k70]
       rw [show nequal (.mk k1 n1 i1 xs1) (.mk k2 n2 i2 xs2) s = ([fSame v1 v2], s2) by simp [nequal, Tm.kind, Tm.name, e1, e2, u1, u2, q1, q2]] at hK
       refine retW_drop (G := hp R2 [(r, cvar s2 d1 d2)]) (leH_hp (by simp only [hpS, eq_self, implies_true, f3, f70, k3, k70]) (by simp only [hpS, eq_self, implies_true, f3, f70, k3, k70])) (retW_is (hK a' d1 d2 R2 ?_))
       exact AccN.rot (ys := [pcF [fSame v1 v2] a']) hacc2
      ·have u2 : n2 = kUnder := by simpa [kUnder] using w2
       rw [show nequal (.mk k1 n1 i1 xs1) (.mk k2 n2 i2 xs2) s = ([], s) by simp [nequal, Tm.kind, Tm.name, e1, e2, u2]] at hK
       simp -dsimp (maxDischargeDepth := 9) only [go_sem, zA, zB, zC, zD, zE, zF, zG, gS, w2, f3, h3]
       refine retW_drop (G := hp R1 [(r, cvar s a1 a2)]) (leH_hp (by simp only [hpS, eq_self, implies_true, f3, h3]) (by simp only [hpS, eq_self, implies_true, f3, h3])) (retW_is (hK a0 a1 a2 R1 ?_))
       exact AccN.rot (ys := [pcF [] a0]) hacc0
     ·have u1 : n1 = kUnder := by simpa [kUnder] using w1
      rw [show nequal (.mk k1 n1 i1 xs1) (.mk k2 n2 i2 xs2) s = ([], s) by simp [nequal, Tm.kind, Tm.name, e1, e2, u1]] at hK
      simp -dsimp (maxDischargeDepth := 9) only [go_sem, zA, zB, zC, zD, zE, zF, zG, gS, w1, f3, h3]
      refine retW_drop (G := hp R1 [(r, cvar s a1 a2)]) (leH_hp (by simp only [hpS, eq_self, implies_true, f3, h3]) (by simp only [hpS, eq_self, implies_true, f3, h3])) (retW_is (hK a0 a1 a2 R1 ?_))
      exact AccN.rot (ys := [pcF [] a0]) hacc0
    ·have e2 : k2 ≠ 1 := of_decide_eq_false v2
     simp -dsimp (maxDischargeDepth := 9) only [go_sem, zA, zB, zC, zD, zE, zF, zG, gS, v1, v2, f3, h3]
     obtain ⟨HH1, RR1, eq1, hs1, back1⟩ := accN_sub (r := r) (qs := cps s a1 a2) (ps := [pcF [] a0]) (o := cvar s a1 a2) (l := [(b3, .var [.d (.int .i64 k), .d (.int .i64 k1), .d (.str n1), .d (.int .i64 i1), .d (.slice (Tm.ds xs1)), .d (.int .i64 k2), .d (.str n2), .d (.int .i64 i2), .d (.slice (Tm.ds xs2)), .d (.str n), .d (.slice (xs.map Tm.d)), .d (.slice (gs.map Gl.d))])]) hacc0 (by simp only [hpS, eq_self, implies_true, f3, h3]) (by simp only [hpS, eq_self, implies_true, ]) (by simp only [hpS, eq_self, implies_true, f3, h3])
     rw [eq1]
     refine number05_ok ⟨hs1, by omega, by omega⟩ n1 _ (fun c1 c2 RA1 hac1 => ?_)
     have nn1 := nnumber_names n1 s
     have nx1 := nnumber_next n1 s
     have q1 : nnumber n1 s = ((nnumber n1 s).1, (nnumber n1 s).2) := rfl
     generalize (nnumber n1 s).1 = v1 at q1 hac1 ⊢
     generalize (nnumber n1 s).2 = s1 at q1 hac1 nn1 nx1 ⊢
     obtain ⟨RB1, hbc1, eb1, hn1⟩ := back1 _ _ hac1
     rw [eb1]
     have b31 := hn1 b3 (by simp only [hpS, eq_self, implies_true, f3]) h3
     simp -dsimp (maxDischargeDepth := 9) only [go_sem, zA, zB, zC, zD, zE, zF, zG, gS, f3, b31]
     obtain ⟨HH2, RR2, eq2, hs2, back2⟩ := accN_sub (r := r) (qs := cps s1 c1 c2) (ps := [pcF [] a0]) (o := cvar s1 c1 c2) (l := [(b3, .var [.d (.int .i64 k), .d (.int .i64 k1), .d (.str n1), .d (.int .i64 i1), .d (.slice (Tm.ds xs1)), .d (.int .i64 k2), .d (.str n2), .d (.int .i64 i2), .d (.slice (Tm.ds xs2)), .d (.str n), .d (.slice (xs.map Tm.d)), .d (.slice (gs.map Gl.d))])]) (by simpa using hbc1) (by simp only [hpS, eq_self, implies_true, f3, b31]) (by simp only [hpS, eq_self, implies_true, ]) (by simp only [hpS, eq_self, implies_true, f3, b31])
     rw [eq2]
     have hz2 := nunify_size v1 (.mk k2 n2 i2 xs2) s1
     have hy2 := nunify_names v1 (.mk k2 n2 i2 xs2) s1
     refine unify05_ok _ (.mk k2 n2 i2 xs2) (Nat.le_refl _) hsb HH2 RR2 r s1 c1 c2 hs2 v1 (by omega) (by omega) _ (fun ar2 d1 d2 RA2 hac2 => ?_)
     have u2 : nunify v1 (.mk k2 n2 i2 xs2) s1 = ((nunify v1 (.mk k2 n2 i2 xs2) s1).1, (nunify v1 (.mk k2 n2 i2 xs2) s1).2) := rfl
     generalize (nunify v1 (.mk k2 n2 i2 xs2) s1).1 = rw2 at u2 hz2 hac2 ⊢
     generalize (nunify v1 (.mk k2 n2 i2 xs2) s1).2 = s2 at u2 hz2 hy2 hac2 ⊢
     obtain ⟨RB2, hbc2, eb2, hn2⟩ := back2 _ _ hac2
     rw [eb2]
     have b32 := hn2 b3 (by simp only [hpS, eq_self, implies_true, f3]) b31
     simp -dsimp (maxDischargeDepth := 9) only [go_sem, zA, zB, zC, zD, zE, zF, zG, gS, f3, b32]
     rw [show nequal (.mk k1 n1 i1 xs1) (.mk k2 n2 i2 xs2) s = (rw2, s2) by rw [← u2]; simp [nequal, Tm.kind, Tm.name, e1, e2, q1]] at hK
     refine retW_drop (G := hp RB2 [(r, cvar s2 d1 d2)]) (leH_hp (by simp only [hpS, eq_self, implies_true, f3, b32]) (by simp only [hpS, eq_self, implies_true, f3, b32])) (retW_is (hK ar2 d1 d2 RB2 ?_))
     exact (by simpa using AccN.without (pre := pcF rw2 ar2 :: cps s2 d1 d2) (p := pcF [] a0) (post := []) hbc2)
   ·have e1 : k1 ≠ 1 := of_decide_eq_false v1
    simp -dsimp (maxDischargeDepth := 9) only [go_sem, zA, zB, zC, zD, zE, zF, zG, gS, v1, f3, h3]
    refine gif_split (fun v2 => ?_) (fun v2 => ?_)
    ·have e2 : k2 = 1 := of_decide_eq_true v2
     simp -dsimp (maxDischargeDepth := 9) only [go_sem, zA, zB, zC, zD, zE, zF, zG, gS, v2, f3, h3]
     obtain ⟨HH1, RR1, eq1, hs1, back1⟩ := accN_sub (r := r) (qs := cps s a1 a2) (ps := [pcF [] a0]) (o := cvar s a1 a2) (l := [(b3, .var [.d (.int .i64 k), .d (.int .i64 k1), .d (.str n1), .d (.int .i64 i1), .d (.slice (Tm.ds xs1)), .d (.int .i64 k2), .d (.str n2), .d (.int .i64 i2), .d (.slice (Tm.ds xs2)), .d (.str n), .d (.slice (xs.map Tm.d)), .d (.slice (gs.map Gl.d))])]) hacc0 (by simp only [hpS, eq_self, implies_true, f3, h3]) (by simp only [hpS, eq_self, implies_true, ]) (by simp only [hpS, eq_self, implies_true, f3, h3])
     rw [eq1]
     refine number05_ok ⟨hs1, by omega, by omega⟩ n2 _ (fun c1 c2 RA1 hac1 => ?_)
     have nn1 := nnumber_names n2 s
     have nx1 := nnumber_next n2 s
     have q1 : nnumber n2 s = ((nnumber n2 s).1, (nnumber n2 s).2) := rfl
     generalize (nnumber n2 s).1 = v1 at q1 hac1 ⊢
     generalize (nnumber n2 s).2 = s1 at q1 hac1 nn1 nx1 ⊢
     obtain ⟨RB1, hbc1, eb1, hn1⟩ := back1 _ _ hac1
     rw [eb1]
     have b31 := hn1 b3 (by simp only [hpS, eq_self, implies_true, f3]) h3
     simp -dsimp (maxDischargeDepth := 9) only [go_sem, zA, zB, zC, zD, zE, zF, zG, gS, f3, b31]
     obtain ⟨HH2, RR2, eq2, hs2, back2⟩ := accN_sub (r := r) (qs := cps s1 c1 c2) (ps := [pcF [] a0]) (o := cvar s1 c1 c2) (l := [(b3, .var [.d (.int .i64 k), .d (.int .i64 k1), .d (.str n1), .d (.int .i64 i1), .d (.slice (Tm.ds xs1)), .d (.int .i64 k2), .d (.str n2), .d (.int .i64 i2), .d (.slice (Tm.ds xs2)), .d (.str n), .d (.slice (xs.map Tm.d)), .d (.slice (gs.map Gl.d))])]) (by simpa using hbc1) (by simp only [hpS, eq_self, implies_true, f3, b31]) (by simp only [hpS, eq_self, implies_true, ]) (by simp only [hpS, eq_self, implies_true, f3, b31])
     rw [eq2]
     have hz2 := nunify_size v1 (.mk k1 n1 i1 xs1) s1
     have hy2 := nunify_names v1 (.mk k1 n1 i1 xs1) s1
     refine unify05_ok _ (.mk k1 n1 i1 xs1) (Nat.le_refl _) hsa HH2 RR2 r s1 c1 c2 hs2 v1 (by omega) (by omega) _ (fun ar2 d1 d2 RA2 hac2 => ?_)
     have u2 : nunify v1 (.mk k1 n1 i1 xs1) s1 = ((nunify v1 (.mk k1 n1 i1 xs1) s1).1, (nunify v1 (.mk k1 n1 i1 xs1) s1).2) := rfl
     generalize (nunify v1 (.mk k1 n1 i1 xs1) s1).1 = rw2 at u2 hz2 hac2 ⊢
     generalize (nunify v1 (.mk k1 n1 i1 xs1) s1).2 = s2 at u2 hz2 hy2 hac2 ⊢
     obtain ⟨RB2, hbc2, eb2, hn2⟩ := back2 _ _ hac2
     rw [eb2]
     have b32 := hn2 b3 (by simp only [hpS, eq_self, implies_true, f3]) b31
     simp -dsimp (maxDischargeDepth := 9) only [go_sem, zA, zB, zC, zD, zE, zF, zG, gS, f3, b32]
     rw [show nequal (.mk k1 n1 i1 xs1) (.mk k2 n2 i2 xs2) s = (rw2, s2) by rw [← u2]; simp [nequal, Tm.kind, Tm.name, e1, e2, q1]] at hK
     refine retW_drop (G := hp RB2 [(r, cvar s2 d1 d2)]) (leH_hp (by simp only [hpS, eq_self, implies_true, f3, b32]) (by simp only [hpS, eq_self, implies_true, f3, b32])) (retW_is (hK ar2 d1 d2 RB2 ?_))
     exact (by simpa using AccN.without (pre := pcF rw2 ar2 :: cps s2 d1 d2) (p := pcF [] a0) (post := []) hbc2)
    ·have e2 : k2 ≠ 1 := of_decide_eq_false v2
     simp -dsimp (maxDischargeDepth := 9) only [go_sem, zA, zB, zC, zD, zE, zF, zG, gS, v2, f3, h3]
     refine fresh05_ok _ r s.next a1 a2 (by simp only [hpS, eq_self, implies_true, ]) (by omega) _ ?_
     simp -dsimp (maxDischargeDepth := 9) only [go_sem, zA, zB, zC, zD, zE, zF, zG, gS, f3, h3]
     rw [show (.var [.d (.int .i64 ((s.next + 1 : Nat) : Int)), a1, a2] : AObj) = cvar (nfresh s).2 a1 a2 from rfl]
     have hn0 : (nfresh s).2.next = s.next + 1 := rfl
     have hm0 : (nfresh s).2.names.length = s.names.length := rfl
     have qf : nfresh s = (s.next, (nfresh s).2) := rfl
     have hacc00 : AccN H0 [r] (cps (nfresh s).2 a1 a2 ++ [pcF [] a0]) R1 := hacc0
     generalize (nfresh s).2 = s0 at hn0 hm0 qf hacc00 ⊢
     obtain ⟨HH1, RR1, eq1, hs1, back1⟩ := accN_sub (r := r) (qs := cps s0 a1 a2) (ps := [pcF [] a0]) (o := cvar s0 a1 a2) (l := [(b3, .var [.d (.int .i64 k), .d (.int .i64 k1), .d (.str n1), .d (.int .i64 i1), .d (.slice (Tm.ds xs1)), .d (.int .i64 k2), .d (.str n2), .d (.int .i64 i2), .d (.slice (Tm.ds xs2)), .d (.str n), .d (.slice (xs.map Tm.d)), .d (.slice (gs.map Gl.d))])]) hacc00 (by simp only [hpS, eq_self, implies_true, f3, h3]) (by simp only [hpS, eq_self, implies_true, ]) (by simp only [hpS, eq_self, implies_true, f3, h3])
     rw [eq1]
     have hz1 := nunify_size s.next (.mk k1 n1 i1 xs1) s0
     have hy1 := nunify_names s.next (.mk k1 n1 i1 xs1) s0
     refine unify05_ok _ (.mk k1 n1 i1 xs1) (Nat.le_refl _) hsa HH1 RR1 r s0 a1 a2 hs1 s.next (by omega) (by omega) _ (fun ar1 c1 c2 RA1 hac1 => ?_)
     have u1 : nunify s.next (.mk k1 n1 i1 xs1) s0 = ((nunify s.next (.mk k1 n1 i1 xs1) s0).1, (nunify s.next (.mk k1 n1 i1 xs1) s0).2) := rfl
     generalize (nunify s.next (.mk k1 n1 i1 xs1) s0).1 = rw1 at u1 hz1 hac1 ⊢
     generalize (nunify s.next (.mk k1 n1 i1 xs1) s0).2 = s1 at u1 hz1 hy1 hac1 ⊢
     obtain ⟨RB1, hbc1, eb1, hn1⟩ := back1 _ _ hac1
     rw [eb1]
     have b31 := hn1 b3 (by simp only [hpS, eq_self, implies_true, f3]) h3
     simp -dsimp (maxDischargeDepth := 9) only [go_sem, zA, zB, zC, zD, zE, zF, zG, gS, f3, b31]
     have hok1 : okK [r] RB1 [(r, cvar s1 c1 c2), (b3, .var [.d (.int .i64 k), .d (.int .i64 k1), .d (.str n1), .d (.int .i64 i1), .d (.slice (Tm.ds xs1)), .d (.int .i64 k2), .d (.str n2), .d (.int .i64 i2), .d (.slice (Tm.ds xs2)), .d (.str n), .d (.slice (xs.map Tm.d)), .d (.slice (gs.map Gl.d))])] := by simp only [hpS, eq_self, implies_true, f3, b31]
     rw [AccN.src (pre := []) (p := pcF rw1 ar1) (post := cps s1 c1 c2 ++ [pcF ([] : List Fl) a0]) hbc1 hok1]
     have hszs1 := szs_map (sz := 10) (f := Fl.d) (fun x => x.cs_length) rw1
     simp -dsimp (maxDischargeDepth := 9) only [go_sem, zA, zB, zC, zD, zE, zF, zG, gS, hszs1]
     refine AccN.appTo (pre := pcF rw1 ar1 :: cps s1 c1 c2) (p := pcF ([] : List Fl) a0) (post := []) hbc1 hok1 (by simp only [hpS, eq_self, implies_true, ]) (by simp only [List.length_map, List.length_nil, List.length_append, List.nil_append]; omega) (fun aa1 RC1 hd1 hm1 => ?_)
     have c31 := hm1 b3 (by simp only [hpS, eq_self, implies_true, f3]) b31
     have hx1 : AccN H0 [r] (cps s1 c1 c2 ++ [pcF (([] : List Fl) ++ rw1) aa1]) RC1 := by
      have := AccN.without (pre := []) (p := pcF rw1 ar1) (post := cps s1 c1 c2 ++ [⟨39, 10, ([] : List Fl).map Fl.d ++ rw1.map Fl.d, aa1⟩]) hd1
      simp only [pcF, List.map_append]; exact this
     simp -dsimp (maxDischargeDepth := 9) only [go_sem, zA, zB, zC, zD, zE, zF, zG, gS, f3, c31]
     obtain ⟨HH2, RR2, eq2, hs2, back2⟩ := accN_sub (r := r) (qs := cps s1 c1 c2) (ps := [pcF ([] ++ rw1) aa1]) (o := cvar s1 c1 c2) (l := [(b3, .var [.d (.int .i64 k), .d (.int .i64 k1), .d (.str n1), .d (.int .i64 i1), .d (.slice (Tm.ds xs1)), .d (.int .i64 k2), .d (.str n2), .d (.int .i64 i2), .d (.slice (Tm.ds xs2)), .d (.str n), .d (.slice (xs.map Tm.d)), .d (.slice (gs.map Gl.d))])]) hx1 (by simp only [hpS, eq_self, implies_true, f3, c31]) (by simp only [hpS, eq_self, implies_true, ]) (by simp only [hpS, eq_self, implies_true, f3, c31])
     rw [eq2]
     have hz2 := nunify_size s.next (.mk k2 n2 i2 xs2) s1
     have hy2 := nunify_names s.next (.mk k2 n2 i2 xs2) s1
     refine unify05_ok _ (.mk k2 n2 i2 xs2) (Nat.le_refl _) hsb HH2 RR2 r s1 c1 c2 hs2 s.next (by omega) (by omega) _ (fun ar2 d1 d2 RA2 hac2 => ?_)
     have u2 : nunify s.next (.mk k2 n2 i2 xs2) s1 = ((nunify s.next (.mk k2 n2 i2 xs2) s1).1, (nunify s.next (.mk k2 n2 i2 xs2) s1).2) := rfl
     generalize (nunify s.next (.mk k2 n2 i2 xs2) s1).1 = rw2 at u2 hz2 hac2 ⊢
     generalize (nunify s.next (.mk k2 n2 i2 xs2) s1).2 = s2 at u2 hz2 hy2 hac2 ⊢
     obtain ⟨RB2, hbc2, eb2, hn2⟩ := back2 _ _ hac2
     rw [eb2]
     have b32 := hn2 b3 (by simp only [hpS, eq_self, implies_true, f3]) c31
     simp -dsimp (maxDischargeDepth := 9) only [go_sem, zA, zB, zC, zD, zE, zF, zG, gS, f3, b32]
     have hok2 : okK [r] RB2 [(r, cvar s2 d1 d2), (b3, .var [.d (.int .i64 k), .d (.int .i64 k1), .d (.str n1), .d (.int .i64 i1), .d (.slice (Tm.ds xs1)), .d (.int .i64 k2), .d (.str n2), .d (.int .i64 i2), .d (.slice (Tm.ds xs2)), .d (.str n), .d (.slice (xs.map Tm.d)), .d (.slice (gs.map Gl.d))])] := by simp only [hpS, eq_self, implies_true, f3, b32]
     rw [AccN.src (pre := []) (p := pcF rw2 ar2) (post := cps s2 d1 d2 ++ [pcF ([] ++ rw1) aa1]) hbc2 hok2]
     have hszs2 := szs_map (sz := 10) (f := Fl.d) (fun x => x.cs_length) rw2
     simp -dsimp (maxDischargeDepth := 9) only [go_sem, zA, zB, zC, zD, zE, zF, zG, gS, hszs2]
     refine AccN.appTo (pre := pcF rw2 ar2 :: cps s2 d1 d2) (p := pcF ([] ++ rw1) aa1) (post := []) hbc2 hok2 (by simp only [hpS, eq_self, implies_true, ]) (by simp only [List.length_map, List.length_nil, List.length_append, List.nil_append]; omega) (fun aa2 RC2 hd2 hm2 => ?_)
     have c32 := hm2 b3 (by simp only [hpS, eq_self, implies_true, f3]) b32
     have hx2 : AccN H0 [r] (cps s2 d1 d2 ++ [pcF (([] ++ rw1) ++ rw2) aa2]) RC2 := by
      have := AccN.without (pre := []) (p := pcF rw2 ar2) (post := cps s2 d1 d2 ++ [⟨39, 10, ([] ++ rw1).map Fl.d ++ rw2.map Fl.d, aa2⟩]) hd2
      simp only [pcF, List.map_append]; exact this
     simp -dsimp (maxDischargeDepth := 9) only [go_sem, zA, zB, zC, zD, zE, zF, zG, gS, f3, c32]
     rw [show nequal (.mk k1 n1 i1 xs1) (.mk k2 n2 i2 xs2) s = ([] ++ rw1 ++ rw2, s2) by simp [nequal, Tm.kind, e1, e2, qf, u1, u2]] at hK
     refine retW_drop (G := hp RC2 [(r, cvar s2 d1 d2)]) (leH_hp (by simp only [hpS, eq_self, implies_true, f3, c32]) (by simp only [hpS, eq_self, implies_true, f3, c32])) (retW_is (hK aa2 d1 d2 RC2 ?_))
     exact AccN.rot (ys := [pcF ([] ++ rw1 ++ rw2) aa2]) hx2
  simp -dsimp (maxDischargeDepth := 9) only [go_sem, zA, zB, zC, zD, zE, zF, zG, gS, g2, f3, h3]
  refine gif_split (fun g3 => ?_) (fun g3 => ?_)
  ·have e : k = 4 := of_decide_eq_true g3
   have hg : ngoal (.mk k (.mk k1 n1 i1 xs1) (.mk k2 n2 i2 xs2) n xs gs) s = ((nplaces xs s).2.1 ++ [fCall ⟨n, xs.length⟩ (nplaces xs s).1], (nplaces xs s).2.2) := by rw [e]; simp [ngoal]
   rw [hg] at hK
   simp -dsimp (maxDischargeDepth := 9) only [go_sem, zA, zB, zC, zD, zE, zF, zG, gS, g3, f3, h3]
   refine newK_hp (fun b11 f11 => ?_)
   simp only [off_cons, off_nil] at f11
   simp -dsimp (maxDischargeDepth := 9) only [go_sem, zA, zB, zC, zD, zE, zF, zG, gS, f3, h3, f11]
   have hacc4 : AccN H0 [r] (cps s a1 a2 ++ [pcN [] .nils, pcF [] a0]) R1 := AccN.rot (xs := [pcN [] .nils, pcF [] a0]) ((AccN.rot (ys := [pcF [] a0]) hacc0).nil _ _)
   refine svc_loop (X := Nat × List Nat × List Fl × NS × A × A × A × A × Heap) (fun y => [(0, .ref r 0), (5, y.2.2.2.2.2.2.2.1), (11, .ref b11 0), (119, .d (.slice (xs.map Tm.d))), (120, .d (.int .i64 xs.length)), (121, .d (.int .i64 y.1))])
    (fun y G => G = hp y.2.2.2.2.2.2.2.2 [(r, cvar y.2.2.2.1 y.2.2.2.2.1 y.2.2.2.2.2.1), (b11, .var [.d (.int .i64 6), .d (.int .i64 0), .d (.int .i64 0), .d (.int .i64 0), .d (.str ⟨#[]⟩), .d (.int .i64 0), .d (.str n), .d (.int .i64 xs.length), y.2.2.2.2.2.2.1, .nils])] ∧ AccN H0 [r] (cps y.2.2.2.1 y.2.2.2.2.1 y.2.2.2.2.2.1 ++ [pcN y.2.1 y.2.2.2.2.2.2.1, pcF y.2.2.1 y.2.2.2.2.2.2.2.1]) y.2.2.2.2.2.2.2.2 ∧ y.2.2.2.2.2.2.2.2 b11 = none ∧ y.2.1.length = y.1 ∧ y.1 ≤ xs.length ∧ (y.2.1 ++ (nplaces (xs.drop y.1) y.2.2.2.1).1, y.2.2.1 ++ (nplaces (xs.drop y.1) y.2.2.2.1).2.1, (nplaces (xs.drop y.1) y.2.2.2.1).2.2) = nplaces xs s ∧ y.2.2.2.1.next + Tm.nodess (xs.drop y.1) ≤ s.next + Tm.nodess xs ∧ y.2.2.2.1.names.length + Tm.nodess (xs.drop y.1) ≤ s.names.length + Tm.nodess xs ∧ y.2.2.1.length + Tm.nodess (xs.drop y.1) ≤ Tm.nodess xs)
    (fun y => xs.length - y.1) (0, [], [], s, a1, a2, .nils, a0, R1) _ ⟨rfl, hacc4, f11.2.2.2.2, rfl, Nat.zero_le _, by simp, by simp, by simp, by simp⟩ (by simp -dsimp (maxDischargeDepth := 9) only [go_sem, zA, zB, zC, zD, zE, zF, zG, gS]) (leH_hp (by simp only [hpS, eq_self, implies_true, f3, h3, f11]) (by simp only [hpS, eq_self, implies_true, f3, h3, f11])) ?_
   clear f3 h3 hb3 hacc4 hacc1 hacc0
   rintro ⟨j, vs, ot, s1, c1, c2, av, a, R4⟩ G' ⟨hG, hac, h11, hvl, hj, hrun, hnx, hnn, hout⟩
   simp only at hG hac h11 hvl hj hrun hnx hnn hout
   subst hG
   have hxn := Tm.nodess_length xs
   simp -dsimp (maxDischargeDepth := 9) only [go_sem, zA, zB, zC, zD, zE, zF, zG, gS]
   refine gif_split (fun q1 => ?_) (fun q1 => ?_)
   ·have q1' : j < xs.length := by have := of_decide_eq_true q1; omega
    obtain ⟨⟨tk, tn, ti, ta⟩, hx⟩ := list_at q1'
    have hwj := wrapN (k := j) (by omega)
    rw [drop_at hx] at hrun hnx hnn hout
    simp only [nplaces, Tm.nodess] at hrun hnx hnn hout
    simp -dsimp (maxDischargeDepth := 9) only [go_sem, zA, zB, zC, zD, zE, zF, zG, gS, q1, hx, Tm.d, Tm.cs, f11, h11]
    refine newK_hp (fun b13 f13 => ?_)
    simp only [off_cons, off_nil] at f13
    simp -dsimp (maxDischargeDepth := 9) only [go_sem, zA, zB, zC, zD, zE, zF, zG, gS, f11, h11, f13]
    obtain ⟨HH, RR, eq, hs1, back⟩ := accN_sub (r := r) (qs := cps s1 c1 c2) (ps := [pcN vs av, pcF ot a]) (o := cvar s1 c1 c2) (l := [(b11, .var [.d (.int .i64 6), .d (.int .i64 0), .d (.int .i64 0), .d (.int .i64 0), .d (.str ⟨#[]⟩), .d (.int .i64 0), .d (.str n), .d (.int .i64 xs.length), av, .nils]), (b13, .var [.d (.int .i64 tk), .d (.str tn), .d (.int .i64 ti), .d (.slice (Tm.ds ta))])]) hac (by simp only [hpS, eq_self, implies_true, f11, h11, f13]) (by simp only [hpS, eq_self, implies_true, ]) (by simp only [hpS, eq_self, implies_true, f11, f13])
    rw [eq]
    have hz := nplace_size (.mk tk tn ti ta) s1
    have hy := nplace_names (.mk tk tn ti ta) s1
    refine place05_ok (.mk tk tn ti ta) (Tm.smalls_mem hsx _ (List.mem_of_getElem? hx)) HH RR r s1 c1 c2 hs1 (by omega) (by omega) _ (fun ar d1 d2 RA hac2 => ?_)
    generalize (nplace (.mk tk tn ti ta) s1).1 = v at hrun hac2 ⊢
    generalize (nplace (.mk tk tn ti ta) s1).2.1 = rw1 at hrun hac2 hz ⊢
    generalize (nplace (.mk tk tn ti ta) s1).2.2 = s2 at hrun hac2 hz hy ⊢
    obtain ⟨RB, hbc, ebb, hnb⟩ := back _ _ hac2
    rw [ebb]
    have k11 := hnb b11 (by simp only [hpS, eq_self, implies_true, f11]) h11
    have k13 := hnb b13 (by simp only [hpS, eq_self, implies_true, f13]) f13.2.2.2.2
    have hok : okK [r] RB [(r, cvar s2 d1 d2), (b11, .var [.d (.int .i64 6), .d (.int .i64 0), .d (.int .i64 0), .d (.int .i64 0), .d (.str ⟨#[]⟩), .d (.int .i64 0), .d (.str n), .d (.int .i64 xs.length), av, .nils]), (b13, .var [.d (.int .i64 tk), .d (.str tn), .d (.int .i64 ti), .d (.slice (Tm.ds ta))])] := by simp only [hpS, eq_self, implies_true, f11, k11, k13, f13]
    simp -dsimp (maxDischargeDepth := 9) only [go_sem, zA, zB, zC, zD, zE, zF, zG, gS, f11, f13, k11, k13]
    rw [AccN.src (pre := []) (p := pcF rw1 ar) (post := cps s2 d1 d2 ++ [pcN vs av, pcF ot a]) hbc hok]
    have hszs := szs_map (sz := 10) (f := Fl.d) (fun x => x.cs_length) rw1
    simp -dsimp (maxDischargeDepth := 9) only [go_sem, zA, zB, zC, zD, zE, zF, zG, gS, hszs]
    refine AccN.appTo (pre := pcF rw1 ar :: (cps s2 d1 d2 ++ [pcN vs av])) (p := pcF ot a) (post := []) hbc hok (by simp only [hpS, eq_self, implies_true, ]) (by simp only [List.length_map]; omega) (fun a4 R8 hac3 hn3 => ?_)
    have m11 := hn3 b11 (by simp only [hpS, eq_self, implies_true, f11]) k11
    have m13 := hn3 b13 (by simp only [hpS, eq_self, implies_true, f13]) k13
    have hac4 : AccN H0 [r] (cps s2 d1 d2 ++ [pcN vs av, pcF (ot ++ rw1) a4]) R8 := by
     have := AccN.without (pre := []) (p := pcF rw1 ar) (post := cps s2 d1 d2 ++ [pcN vs av, ⟨39, 10, ot.map Fl.d ++ rw1.map Fl.d, a4⟩]) hac3
     simp only [pcF, List.map_append]; exact this
    simp -dsimp (maxDischargeDepth := 9) only [go_sem, zA, zB, zC, zD, zE, zF, zG, gS, f11, f13, m11, m13]
    refine newV_hp (fun b137 v137 f137 w137 => ?_)
    simp only [off_cons, off_nil] at f137
    simp -dsimp (maxDischargeDepth := 9) only [go_sem, zA, zB, zC, zD, zE, zF, zG, gS, f11, f13, m11, m13, f137]
    refine AccN.appTo (pre := cps s2 d1 d2) (p := pcN vs av) (post := [pcF (ot ++ rw1) a4]) (ns := [.int .i64 (v : Int)]) hac4 (by simp only [hpS, eq_self, implies_true, f11, f13, m11, m13, f137]) (by simp only [hpS, eq_self, implies_true, ]) (by simp only [List.length_map, List.length_cons, List.length_nil]; omega) (fun av' R9 hac5 hn5 => ?_)
    have o11 := hn5 b11 (by simp only [hpS, eq_self, implies_true, f11]) m11
    have o13 := hn5 b13 (by simp only [hpS, eq_self, implies_true, f13]) m13
    have o137 := hn5 b137 (by simp only [hpS, eq_self, implies_true, f137]) f137.2.2.2.2.2.2
    have oa := AccN.one (pre := cps s2 d1 d2) hac5
    simp only at oa
    simp -dsimp (maxDischargeDepth := 9) only [go_sem, zA, zB, zC, zD, zE, zF, zG, gS, f11, f13, f137, o11, o13, o137, oa, List.length_cons, List.length_nil, hwj]
    have hac6 : AccN H0 [r] (cps s2 d1 d2 ++ [pcN (vs ++ [v]) av', pcF (ot ++ rw1) a4]) R9 := by
     have e : (vs ++ [v]).map (fun (v : Nat) => D.int .i64 (v : Int)) = vs.map (fun (v : Nat) => D.int .i64 (v : Int)) ++ [.int .i64 (v : Int)] := by simp
     simp only [pcN, e]; exact hac5
    refine roundQ_next (j + 1, vs ++ [v], ot ++ rw1, s2, d1, d2, av', a4, R9) _ ⟨rfl, hac6, o11, by simp [hvl], q1', by rw [← hrun]; simp, by simp only; omega, by simp only; omega, by simp only [List.length_append]; omega⟩ (by simp only; omega) (by simp -dsimp (maxDischargeDepth := 9) only [go_sem, zA, zB, zC, zD, zE, zF, zG, gS]) (leH_hp (by simp only [hpS, eq_self, implies_true, f11, f13, f137, o11, o13, o137]) (by simp only [hpS, eq_self, implies_true, f11, f13, f137, o11, o13, o137]))
   ·have q1' : j = xs.length := by have := of_decide_eq_false q1; omega
    rw [q1', drop_end (Nat.le_refl _)] at hrun
    simp only [nplaces, List.append_nil] at hrun
    rw [← hrun] at hK
    simp only at hK
    have hal := AccN.allD (pre := cps s1 c1 c2) (t := [.nils]) hac
    simp only at hal
    simp -dsimp (maxDischargeDepth := 9) only [go_sem, zA, zB, zC, zD, zE, zF, zG, gS, q1, f11, h11, hal]
    refine AccN.deepF (pre := cps s1 c1 c2) (p := pcN vs av) (post := [pcF ot a]) hac (by simp only [hpS, eq_self, implies_true, f11, h11]) (fun H2 R2 hle2 hac2 hav hn2 => ?_)
    have k11 := hn2 b11 (by simp only [hpS, eq_self, implies_true, f11]) h11
    simp -dsimp (maxDischargeDepth := 9) only [go_sem, zA, zB, zC, zD, zE, zF, zG, gS, f11, k11]
    refine newV_hp (fun b143 v143 f143 w143 => ?_)
    simp only [off_cons, off_nil] at f143
    simp -dsimp (maxDischargeDepth := 9) only [go_sem, zA, zB, zC, zD, zE, zF, zG, gS, f11, k11, f143]
    have hd := fCall_d ⟨n, (xs.length : Int)⟩ vs
    simp only at hd
    rw [← hd]
    refine AccN.appTo (pre := cps s1 c1 c2) (p := pcF ot a) (post := []) (ns := [(fCall ⟨n, xs.length⟩ vs).d]) hac2 (by simp only [hpS, eq_self, implies_true, f11, k11, f143]) (by simp only [hpS, eq_self, implies_true, ]) (by simp only [List.length_map, List.length_cons, List.length_nil]; omega) (fun a4 R8 hac3 hn3 => ?_)
    have m11 := hn3 b11 (by simp only [hpS, eq_self, implies_true, f11]) k11
    have m143 := hn3 b143 (by simp only [hpS, eq_self, implies_true, f143]) f143.2.2.2.2
    simp -dsimp (maxDischargeDepth := 9) only [go_sem, zA, zB, zC, zD, zE, zF, zG, gS, f11, f143, m11, m143]
    refine retW_drop (G := hp R8 [(r, cvar s1 c1 c2)]) (leH_hp (by simp only [hpS, eq_self, implies_true, f11, f143, m11, m143]) (by simp only [hpS, eq_self, implies_true, f11, f143, m11, m143])) (retW_is (hK a4 c1 c2 R8 ?_))
    have hac4 : AccN H2 [r] (cps s1 c1 c2 ++ [pcF (ot ++ [fCall ⟨n, xs.length⟩ vs]) a4]) R8 := by
     simp only [pcF, List.map_append, List.map_cons, List.map_nil]; exact hac3
    exact (AccN.rot (ys := [pcF (ot ++ [fCall ⟨n, xs.length⟩ vs]) a4]) hac4).weak hle2
  simp -dsimp (maxDischargeDepth := 9) only [go_sem, zA, zB, zC, zD, zE, zF, zG, gS, g3, f3, h3]
  refine gif_split (fun g4 => ?_) (fun g4 => ?_)
  ·have e : k = 8 := of_decide_eq_true g4
   have hg : ngoal (.mk k (.mk k1 n1 i1 xs1) (.mk k2 n2 i2 xs2) n xs gs) s = ((nplace (.mk k1 n1 i1 xs1) s).2.1 ++ [fRow 10 (nplace (.mk k1 n1 i1 xs1) s).1 []], (nplace (.mk k1 n1 i1 xs1) s).2.2) := by rw [e]; simp [ngoal]
   rw [hg] at hK
   simp -dsimp (maxDischargeDepth := 9) only [go_sem, zA, zB, zC, zD, zE, zF, zG, gS, g4, f3, h3]
   obtain ⟨HH1, RR1, eq1, hs1, back1⟩ := accN_sub (r := r) (qs := cps s a1 a2) (ps := [pcF [] a0]) (o := cvar s a1 a2) (l := [(b3, .var [.d (.int .i64 k), .d (.int .i64 k1), .d (.str n1), .d (.int .i64 i1), .d (.slice (Tm.ds xs1)), .d (.int .i64 k2), .d (.str n2), .d (.int .i64 i2), .d (.slice (Tm.ds xs2)), .d (.str n), .d (.slice (xs.map Tm.d)), .d (.slice (gs.map Gl.d))])]) hacc0 (by simp only [hpS, eq_self, implies_true, f3, h3]) (by simp only [hpS, eq_self, implies_true, ]) (by simp only [hpS, eq_self, implies_true, f3, h3])
   rw [eq1]
   have hz := nplace_size (.mk k1 n1 i1 xs1) s
   have hy := nplace_names (.mk k1 n1 i1 xs1) s
   refine place05_ok (.mk k1 n1 i1 xs1) hsa HH1 RR1 r s a1 a2 hs1 (by omega) (by omega) _ (fun ar1 d1 d2 RA hac2 => ?_)
   generalize (nplace (.mk k1 n1 i1 xs1) s).1 = v at hK hac2 ⊢
   generalize (nplace (.mk k1 n1 i1 xs1) s).2.1 = rw1 at hK hac2 hz ⊢
   generalize (nplace (.mk k1 n1 i1 xs1) s).2.2 = s1 at hK hac2 hz hy ⊢
   obtain ⟨RB1, hbc1, ebb, hnb⟩ := back1 _ _ hac2
   rw [ebb]
   have b31 := hnb b3 (by simp only [hpS, eq_self, implies_true, f3]) h3
   simp -dsimp (maxDischargeDepth := 9) only [go_sem, zA, zB, zC, zD, zE, zF, zG, gS, f3, b31]
   have hok1 : okK [r] RB1 [(r, cvar s1 d1 d2), (b3, .var [.d (.int .i64 k), .d (.int .i64 k1), .d (.str n1), .d (.int .i64 i1), .d (.slice (Tm.ds xs1)), .d (.int .i64 k2), .d (.str n2), .d (.int .i64 i2), .d (.slice (Tm.ds xs2)), .d (.str n), .d (.slice (xs.map Tm.d)), .d (.slice (gs.map Gl.d))])] := by simp only [hpS, eq_self, implies_true, f3, b31]
   rw [AccN.src (pre := []) (p := pcF rw1 ar1) (post := cps s1 d1 d2 ++ [pcF ([] : List Fl) a0]) hbc1 hok1]
   have hszs1 := szs_map (sz := 10) (f := Fl.d) (fun x => x.cs_length) rw1
   simp -dsimp (maxDischargeDepth := 9) only [go_sem, zA, zB, zC, zD, zE, zF, zG, gS, hszs1]
   refine AccN.appTo (pre := pcF rw1 ar1 :: cps s1 d1 d2) (p := pcF ([] : List Fl) a0) (post := []) hbc1 hok1 (by simp only [hpS, eq_self, implies_true, ]) (by simp only [List.length_map, List.length_nil, List.length_append, List.nil_append]; omega) (fun aa1 RC1 hd1 hm1 => ?_)
   have c31 := hm1 b3 (by simp only [hpS, eq_self, implies_true, f3]) b31
   have hx1 : AccN H0 [r] (cps s1 d1 d2 ++ [pcF (([] : List Fl) ++ rw1) aa1]) RC1 := by
    have := AccN.without (pre := []) (p := pcF rw1 ar1) (post := cps s1 d1 d2 ++ [⟨39, 10, ([] : List Fl).map Fl.d ++ rw1.map Fl.d, aa1⟩]) hd1
    simp only [pcF, List.map_append]; exact this
   simp -dsimp (maxDischargeDepth := 9) only [go_sem, zA, zB, zC, zD, zE, zF, zG, gS, f3, c31]
   have hd := fRow_d 10 (v : Int) []
   simp only [List.map_nil] at hd
   refine newV_hp (fun b159 v159 f159 w159 => ?_)
   simp only [off_cons, off_nil] at f159
   simp -dsimp (maxDischargeDepth := 9) only [go_sem, zA, zB, zC, zD, zE, zF, zG, gS, f3, c31, f159]
   rw [← hd]
   refine AccN.appTo (pre := cps s1 d1 d2) (p := pcF ([] ++ rw1) aa1) (post := []) (ns := [(fRow 10 (v : Int) []).d]) hx1 (by simp only [hpS, eq_self, implies_true, f3, c31, f159]) (by simp only [hpS, eq_self, implies_true, ]) (by simp only [List.length_map, List.length_cons, List.length_nil, List.length_append, List.nil_append]; omega) (fun a' R2 hacc2 nhacc2 => ?_)
   have k3 := nhacc2 b3 (by simp only [hpS, eq_self, implies_true, f3]) c31
   have k159 := nhacc2 b159 (by simp only [hpS, eq_self, implies_true, f159]) f159.2.2.2.2
   simp -dsimp (maxDischargeDepth := 9) only [go_sem, zA, zB, zC, zD, zE, zF, zG, gS, f3, f159, k3, k159]
   have hac4 : AccN H0 [r] (cps s1 d1 d2 ++ [pcF (rw1 ++ [fRow 10 (v : Int) []]) a']) R2 := by
    simp only [pcF, List.map_append, List.map_cons, List.map_nil]; exact hacc2
   refine retW_drop (G := hp R2 [(r, cvar s1 d1 d2)]) (leH_hp (by simp only [hpS, eq_self, implies_true, f3, f159, k3, k159]) (by simp only [hpS, eq_self, implies_true, f3, f159, k3, k159])) (retW_is (hK a' d1 d2 R2 ?_))
   exact AccN.rot (ys := [pcF (rw1 ++ [fRow 10 (v : Int) []]) a']) hac4
  simp -dsimp (maxDischargeDepth := 9) only [go_sem, zA, zB, zC, zD, zE, zF, zG, gS, g4, f3, h3]
  refine gif_split (fun g5 => ?_) (fun g5 => ?_)
  ·have e : k = 5 := of_decide_eq_true g5
   have hg : ngoal (.mk k (.mk k1 n1 i1 xs1) (.mk k2 n2 i2 xs2) n xs gs) s = ngoals gs s := by rw [e]; simp [ngoal]
   rw [hg] at hK
   simp -dsimp (maxDischargeDepth := 9) only [go_sem, zA, zB, zC, zD, zE, zF, zG, gS, g5, f3, h3]
   refine svc_loop (X := Nat × List Fl × NS × A × A × A × Heap) (fun y => [(0, .ref r 0), (5, y.2.2.2.2.2.1), (164, .d (.slice (gs.map Gl.d))), (165, .d (.int .i64 gs.length)), (166, .d (.int .i64 y.1))])
    (fun y G => G = hp y.2.2.2.2.2.2 [(r, cvar y.2.2.1 y.2.2.2.1 y.2.2.2.2.1)] ∧ AccN H0 [r] (cps y.2.2.1 y.2.2.2.1 y.2.2.2.2.1 ++ [pcF y.2.1 y.2.2.2.2.2.1]) y.2.2.2.2.2.2 ∧ y.1 ≤ gs.length ∧ (y.2.1 ++ (ngoals (gs.drop y.1) y.2.2.1).1, (ngoals (gs.drop y.1) y.2.2.1).2) = ngoals gs s ∧ y.2.2.1.next + Gl.nodess (gs.drop y.1) ≤ s.next + Gl.nodess gs ∧ y.2.2.1.names.length + Gl.nodess (gs.drop y.1) ≤ s.names.length + Gl.nodess gs ∧ y.2.1.length + Gl.nodess (gs.drop y.1) ≤ Gl.nodess gs)
    (fun y => gs.length - y.1) (0, [], s, a1, a2, a0, R1) _ ⟨rfl, hacc0, Nat.zero_le _, by simp, by simp, by simp, by simp⟩ (by simp -dsimp (maxDischargeDepth := 9) only [go_sem, zA, zB, zC, zD, zE, zF, zG, gS]) (leH_hp (by simp only [hpS, eq_self, implies_true, f3, h3]) (by simp only [hpS, eq_self, implies_true, f3, h3])) ?_
   clear f3 h3 hb3 hacc1 hacc0
   rintro ⟨j, ot, s1, c1, c2, a, R4⟩ G' ⟨hG, hac, hj, hrun, hnx, hnn, hout⟩
   simp only at hG hac hj hrun hnx hnn hout
   subst hG
   have hgn := Gl.nodess_length gs
   simp -dsimp (maxDischargeDepth := 9) only [go_sem, zA, zB, zC, zD, zE, zF, zG, gS]
   refine gif_split (fun q1 => ?_) (fun q1 => ?_)
   ·have q1' : j < gs.length := by have := of_decide_eq_true q1; omega
    obtain ⟨⟨gk, ⟨g1, m1, j1, y1⟩, ⟨g2, m2, j2, y2⟩, gn, gxs, ggs⟩, hx⟩ := list_at q1'
    have hwj := wrapN (k := j) (by omega)
    have hgm := Gl.nodess_mem (List.mem_of_getElem? hx)
    rw [drop_at hx] at hrun hnx hnn hout
    simp only [ngoals, Gl.nodess] at hrun hnx hnn hout
    simp -dsimp (maxDischargeDepth := 9) only [go_sem, zA, zB, zC, zD, zE, zF, zG, gS, q1, hx, Gl.d, Gl.cs, Tm.cs, List.cons_append, List.nil_append]
    refine newK_hp (fun b19 f19 => ?_)
    simp only [off_cons, off_nil] at f19
    simp -dsimp (maxDischargeDepth := 9) only [go_sem, zA, zB, zC, zD, zE, zF, zG, gS, f19]
    obtain ⟨HH, RR, eq, hs1, back⟩ := accN_sub (r := r) (qs := cps s1 c1 c2) (ps := [pcF ot a]) (o := cvar s1 c1 c2) (l := [(b19, .var [.d (.int .i64 gk), .d (.int .i64 g1), .d (.str m1), .d (.int .i64 j1), .d (.slice (Tm.ds y1)), .d (.int .i64 g2), .d (.str m2), .d (.int .i64 j2), .d (.slice (Tm.ds y2)), .d (.str gn), .d (.slice (gxs.map Tm.d)), .d (.slice (Gl.ds ggs))])]) hac (by simp only [hpS, eq_self, implies_true, f19]) (by simp only [hpS, eq_self, implies_true, ]) (by simp only [hpS, eq_self, implies_true, f19])
    rw [eq]
    have hz := ngoal_size (.mk gk (.mk g1 m1 j1 y1) (.mk g2 m2 j2 y2) gn gxs ggs) s1
    have hy := ngoal_names (.mk gk (.mk g1 m1 j1 y1) (.mk g2 m2 j2 y2) gn gxs ggs) s1
    refine goal05_ok m (.mk gk (.mk g1 m1 j1 y1) (.mk g2 m2 j2 y2) gn gxs ggs) (by omega) (Gl.smalls_mem hsg _ (List.mem_of_getElem? hx)) HH RR r s1 c1 c2 hs1 (by omega) (by omega) _ (fun ar d1 d2 RA hac2 => ?_)
    generalize (ngoal (.mk gk (.mk g1 m1 j1 y1) (.mk g2 m2 j2 y2) gn gxs ggs) s1).1 = rw1 at hrun hac2 hz ⊢
    generalize (ngoal (.mk gk (.mk g1 m1 j1 y1) (.mk g2 m2 j2 y2) gn gxs ggs) s1).2 = s2 at hrun hac2 hz hy ⊢
    obtain ⟨RB, hbc, ebb, hnb⟩ := back _ _ hac2
    rw [ebb]
    have k19 := hnb b19 (by simp only [hpS, eq_self, implies_true, f19]) f19.2.2
    have hok : okK [r] RB [(r, cvar s2 d1 d2), (b19, .var [.d (.int .i64 gk), .d (.int .i64 g1), .d (.str m1), .d (.int .i64 j1), .d (.slice (Tm.ds y1)), .d (.int .i64 g2), .d (.str m2), .d (.int .i64 j2), .d (.slice (Tm.ds y2)), .d (.str gn), .d (.slice (gxs.map Tm.d)), .d (.slice (Gl.ds ggs))])] := by simp only [hpS, eq_self, implies_true, f19, k19]
    simp -dsimp (maxDischargeDepth := 9) only [go_sem, zA, zB, zC, zD, zE, zF, zG, gS, f19, k19]
    rw [AccN.src (pre := []) (p := pcF rw1 ar) (post := cps s2 d1 d2 ++ [pcF ot a]) hbc hok]
    have hszs := szs_map (sz := 10) (f := Fl.d) (fun x => x.cs_length) rw1
    simp -dsimp (maxDischargeDepth := 9) only [go_sem, zA, zB, zC, zD, zE, zF, zG, gS, hszs]
    refine AccN.appTo (pre := pcF rw1 ar :: cps s2 d1 d2) (p := pcF ot a) (post := []) hbc hok (by simp only [hpS, eq_self, implies_true, ]) (by simp only [List.length_map]; omega) (fun a4 R8 hac3 hn3 => ?_)
    have m19 := hn3 b19 (by simp only [hpS, eq_self, implies_true, f19]) k19
    have hac4 : AccN H0 [r] (cps s2 d1 d2 ++ [pcF (ot ++ rw1) a4]) R8 := by
     have := AccN.without (pre := []) (p := pcF rw1 ar) (post := cps s2 d1 d2 ++ [⟨39, 10, ot.map Fl.d ++ rw1.map Fl.d, a4⟩]) hac3
     simp only [pcF, List.map_append]; exact this
    simp -dsimp (maxDischargeDepth := 9) only [go_sem, zA, zB, zC, zD, zE, zF, zG, gS, f19, m19, hwj]
    refine roundQ_next (j + 1, ot ++ rw1, s2, d1, d2, a4, R8) _ ⟨rfl, hac4, q1', by rw [← hrun]; simp, by simp only; omega, by simp only; omega, by simp only [List.length_append]; omega⟩ (by simp only; omega) (by simp -dsimp (maxDischargeDepth := 9) only [go_sem, zA, zB, zC, zD, zE, zF, zG, gS]) (leH_hp (by simp only [hpS, eq_self, implies_true, f19, m19]) (by simp only [hpS, eq_self, implies_true, f19, m19]))
   ·rw [drop_end (by have := of_decide_eq_false q1; omega)] at hrun
    simp only [ngoals, List.append_nil] at hrun
    rw [← hrun] at hK
    simp only at hK
    simp -dsimp (maxDischargeDepth := 9) only [go_sem, zA, zB, zC, zD, zE, zF, zG, gS, q1]
    exact retW_is (hK a c1 c2 R4 (AccN.rot (ys := [pcF ot a]) hac))
  simp -dsimp (maxDischargeDepth := 9) only [go_sem, zA, zB, zC, zD, zE, zF, zG, gS, g5, f3, h3]
  refine gif_split (fun g6 => ?_) (fun g6 => ?_)
  ·have e : k = 6 := of_decide_eq_true g6
   have hg : ngoal (.mk k (.mk k1 n1 i1 xs1) (.mk k2 n2 i2 xs2) n xs gs) s = ([fRow 8 0 (nwholes gs s).1], (nwholes gs s).2) := by rw [e]; simp [ngoal]
   rw [hg] at hK
   simp -dsimp (maxDischargeDepth := 9) only [go_sem, zA, zB, zC, zD, zE, zF, zG, gS, g6, f3, h3]
   have e7 : decide (k = 7) = false := by rw [e]; rfl
   have e9 : decide (k = 9) = false := by rw [e]; rfl
   refine newK_hp (fun b20 f20 => ?_)
   simp only [off_cons, off_nil] at f20
   simp -dsimp (maxDischargeDepth := 9) only [go_sem, zA, zB, zC, zD, zE, zF, zG, gS, f3, h3, f20, e7, e9]
   have h20 := f20.2.2.2.2
   have hac0 : AccN H0 [r] (cps s a1 a2 ++ [pcF [] .nils, pcF [] a0]) R1 := AccN.rot (xs := [pcF [] .nils, pcF [] a0]) ((AccN.rot (ys := [pcF [] a0]) hacc0).nil _ _)
   refine svc_loop (X := Nat × List Fl × NS × A × A × A × Heap) (fun y => [(0, .ref r 0), (5, a0), (20, .ref b20 0), (195, .d (.slice (gs.map Gl.d))), (196, .d (.int .i64 gs.length)), (197, .d (.int .i64 y.1))])
    (fun y G => G = hp y.2.2.2.2.2.2 [(r, cvar y.2.2.1 y.2.2.2.1 y.2.2.2.2.1), (b20, .var [.d (.int .i64 8), .d (.int .i64 0), .d (.int .i64 0), .d (.int .i64 0), .d (.str ⟨#[]⟩), .d (.int .i64 0), .d (.str ⟨#[]⟩), .d (.int .i64 0), .nils, y.2.2.2.2.2.1])] ∧ AccN H0 [r] (cps y.2.2.1 y.2.2.2.1 y.2.2.2.2.1 ++ [pcF y.2.1 y.2.2.2.2.2.1, pcF [] a0]) y.2.2.2.2.2.2 ∧ y.2.2.2.2.2.2 b20 = none ∧ y.1 ≤ gs.length ∧ (y.2.1 ++ (nwholes (gs.drop y.1) y.2.2.1).1, (nwholes (gs.drop y.1) y.2.2.1).2) = nwholes gs s ∧ y.2.2.1.next + Gl.nodess (gs.drop y.1) ≤ s.next + Gl.nodess gs ∧ y.2.2.1.names.length + Gl.nodess (gs.drop y.1) ≤ s.names.length + Gl.nodess gs ∧ y.2.1.length = y.1)
    (fun y => gs.length - y.1) (0, [], s, a1, a2, .nils, R1) _ ⟨rfl, hac0, h20, Nat.zero_le _, by simp, by simp, by simp, rfl⟩ (by simp -dsimp (maxDischargeDepth := 9) only [go_sem, zA, zB, zC, zD, zE, zF, zG, gS]) (leH_hp (by simp only [hpS, eq_self, implies_true, f3, h3, f20, h20]) (by simp only [hpS, eq_self, implies_true, f3, h3, f20, h20])) ?_
   clear hb3 hacc1 hacc0 hac0
   rintro ⟨j, ot, s5, c1, c2, av, R4⟩ G' ⟨hG, hac, h20, hj, hrun, hnx, hnn, hout⟩
   simp only at hG hac h20 hj hrun hnx hnn hout
   subst hG
   have hgn := Gl.nodess_length gs
   simp -dsimp (maxDischargeDepth := 9) only [go_sem, zA, zB, zC, zD, zE, zF, zG, gS]
   refine gif_split (fun q1 => ?_) (fun q1 => ?_)
   ·have q1' : j < gs.length := by have := of_decide_eq_true q1; omega
    obtain ⟨⟨gk, ⟨g1, m1, j1, y1⟩, ⟨g2, m2, j2, y2⟩, gn, gxs, ggs⟩, hx⟩ := list_at q1'
    have hwj := wrapN (k := j) (by omega)
    have hgm := Gl.nodess_mem (List.mem_of_getElem? hx)
    rw [drop_at hx] at hrun hnx hnn
    simp only [nwholes, Gl.nodess] at hrun hnx hnn
    simp -dsimp (maxDischargeDepth := 9) only [go_sem, zA, zB, zC, zD, zE, zF, zG, gS, q1, hx, Gl.d, Gl.cs, Tm.cs, List.cons_append, List.nil_append, f20, h20]
    refine newK_hp (fun b22 f22 => ?_)
    simp only [off_cons, off_nil] at f22
    simp -dsimp (maxDischargeDepth := 9) only [go_sem, zA, zB, zC, zD, zE, zF, zG, gS, f20, h20, f22]
    obtain ⟨HH, RR, eq, hs5, back⟩ := accN_sub (r := r) (qs := cps s5 c1 c2) (ps := [pcF ot av, pcF [] a0]) (o := cvar s5 c1 c2) (l := [(b20, .var [.d (.int .i64 8), .d (.int .i64 0), .d (.int .i64 0), .d (.int .i64 0), .d (.str ⟨#[]⟩), .d (.int .i64 0), .d (.str ⟨#[]⟩), .d (.int .i64 0), .nils, av]), (b22, .var [.d (.int .i64 gk), .d (.int .i64 g1), .d (.str m1), .d (.int .i64 j1), .d (.slice (Tm.ds y1)), .d (.int .i64 g2), .d (.str m2), .d (.int .i64 j2), .d (.slice (Tm.ds y2)), .d (.str gn), .d (.slice (gxs.map Tm.d)), .d (.slice (Gl.ds ggs))])]) hac (by simp only [hpS, eq_self, implies_true, f20, h20, f22]) (by simp only [hpS, eq_self, implies_true, ]) (by simp only [hpS, eq_self, implies_true, f20, f22])
    rw [eq]
    have hz := ngoal_size (.mk gk (.mk g1 m1 j1 y1) (.mk g2 m2 j2 y2) gn gxs ggs) s5
    have hy := ngoal_names (.mk gk (.mk g1 m1 j1 y1) (.mk g2 m2 j2 y2) gn gxs ggs) s5
    refine goal05_ok m (.mk gk (.mk g1 m1 j1 y1) (.mk g2 m2 j2 y2) gn gxs ggs) (by omega) (Gl.smalls_mem hsg _ (List.mem_of_getElem? hx)) HH RR r s5 c1 c2 hs5 (by omega) (by omega) _ (fun ar d1 d2 RA hac2 => ?_)
    generalize (ngoal (.mk gk (.mk g1 m1 j1 y1) (.mk g2 m2 j2 y2) gn gxs ggs) s5).1 = rw1 at hrun hac2 hz ⊢
    generalize (ngoal (.mk gk (.mk g1 m1 j1 y1) (.mk g2 m2 j2 y2) gn gxs ggs) s5).2 = s6 at hrun hac2 hz hy ⊢
    obtain ⟨RB, hbc, ebb, hnb⟩ := back _ _ hac2
    rw [ebb]
    have k20 := hnb b20 (by simp only [hpS, eq_self, implies_true, f20]) h20
    have k22 := hnb b22 (by simp only [hpS, eq_self, implies_true, f22]) f22.2.2.2.2
    have hok : okK [r] RB [(r, cvar s6 d1 d2), (b20, .var [.d (.int .i64 8), .d (.int .i64 0), .d (.int .i64 0), .d (.int .i64 0), .d (.str ⟨#[]⟩), .d (.int .i64 0), .d (.str ⟨#[]⟩), .d (.int .i64 0), .nils, av]), (b22, .var [.d (.int .i64 gk), .d (.int .i64 g1), .d (.str m1), .d (.int .i64 j1), .d (.slice (Tm.ds y1)), .d (.int .i64 g2), .d (.str m2), .d (.int .i64 j2), .d (.slice (Tm.ds y2)), .d (.str gn), .d (.slice (gxs.map Tm.d)), .d (.slice (Gl.ds ggs))])] := by simp only [hpS, eq_self, implies_true, f20, f22, k20, k22]
    simp -dsimp (maxDischargeDepth := 9) only [go_sem, zA, zB, zC, zD, zE, zF, zG, gS, f20, f22, k20, k22]
    refine ACall.frz [true] ?_
    simp only [frzM]
    refine AccN.deep (pre := []) (p := pcF rw1 ar) (post := cps s6 d1 d2 ++ [pcF ot av, pcF [] a0]) hbc hok (fun R5 hac3 hn3 => ?_)
    have m20 := hn3 b20 k20
    have m22 := hn3 b22 k22
    refine whole05_ok rw1 (by omega) _ _ ?_
    generalize hnw : nwhole rw1 = w at hrun ⊢
    obtain ⟨wk, wx, wy, wi, ⟨wcn, wca⟩, ⟨wpn, wpa⟩, wxs, wgs⟩ := w
    simp -dsimp (maxDischargeDepth := 9) only [go_sem, zA, zB, zC, zD, zE, zF, zG, gS, f20, f22, m20, m22, Fl.d, Fl.cs]
    refine newV_hp (fun b207 v207 f207 w207 => ?_)
    simp only [off_cons, off_nil] at f207
    simp -dsimp (maxDischargeDepth := 9) only [go_sem, zA, zB, zC, zD, zE, zF, zG, gS, f20, f22, m20, m22, f207]
    refine AccN.appTo (pre := cps s6 d1 d2) (p := pcF ot av) (post := [pcF [] a0]) (ns := [(Fl.mk wk wx wy wi ⟨wcn, wca⟩ ⟨wpn, wpa⟩ wxs wgs).d]) hac3 (by simp only [hpS, eq_self, implies_true, f20, f22, m20, m22, f207]) (by simp only [hpS, eq_self, implies_true, ]) (by simp only [List.length_map, List.length_cons, List.length_nil]; omega) (fun av' R6 hac4 hn4 => ?_)
    have o20 := hn4 b20 (by simp only [hpS, eq_self, implies_true, f20]) m20
    have o22 := hn4 b22 (by simp only [hpS, eq_self, implies_true, f22]) m22
    have o207 := hn4 b207 (by simp only [hpS, eq_self, implies_true, f207]) f207.2.2.2.2.2.2
    have oa := AccN.one (pre := cps s6 d1 d2) hac4
    simp only at oa
    simp -dsimp (maxDischargeDepth := 9) only [go_sem, zA, zB, zC, zD, zE, zF, zG, gS, f20, f22, f207, o20, o22, o207, oa, List.length_cons, List.length_nil, hwj]
    have hac5 : AccN H0 [r] (cps s6 d1 d2 ++ [pcF (ot ++ [Fl.mk wk wx wy wi ⟨wcn, wca⟩ ⟨wpn, wpa⟩ wxs wgs]) av', pcF [] a0]) R6 := by
     simp only [pcF, List.map_append, List.map_cons, List.map_nil]; exact hac4
    refine roundQ_next (j + 1, ot ++ [Fl.mk wk wx wy wi ⟨wcn, wca⟩ ⟨wpn, wpa⟩ wxs wgs], s6, d1, d2, av', R6) _ ⟨rfl, hac5, o20, q1', by rw [← hrun]; simp, by simp only; omega, by simp only; omega, by simp [hout]⟩ (by simp only; omega) (by simp -dsimp (maxDischargeDepth := 9) only [go_sem, zA, zB, zC, zD, zE, zF, zG, gS]) (leH_hp (by simp only [hpS, eq_self, implies_true, f20, f22, f207, o20, o22, o207]) (by simp only [hpS, eq_self, implies_true, f20, f22, f207, o20, o22, o207]))
   ·rw [drop_end (by have := of_decide_eq_false q1; omega)] at hrun
    simp only [nwholes, List.append_nil] at hrun
    rw [← hrun] at hK
    simp only at hK
    have hal := AccN.allD (pre := cps s5 c1 c2) (t := []) hac
    simp only at hal
    simp -dsimp (maxDischargeDepth := 9) only [go_sem, zA, zB, zC, zD, zE, zF, zG, gS, q1, f20, h20, hal]
    refine AccN.deep (pre := cps s5 c1 c2) (p := pcF ot av) (post := [pcF [] a0]) hac (by simp only [hpS, eq_self, implies_true, f20, h20]) (fun R5 hac3 hn3 => ?_)
    have k20 := hn3 b20 h20
    simp -dsimp (maxDischargeDepth := 9) only [go_sem, zA, zB, zC, zD, zE, zF, zG, gS, f20, k20]
    refine newV_hp (fun b213 v213 f213 w213 => ?_)
    simp only [off_cons, off_nil] at f213
    simp -dsimp (maxDischargeDepth := 9) only [go_sem, zA, zB, zC, zD, zE, zF, zG, gS, f20, k20, f213]
    have hd := fRow_d 8 0 ot
    rw [← hd]
    refine AccN.appTo (pre := cps s5 c1 c2) (p := pcF [] a0) (post := []) (ns := [(fRow 8 0 ot).d]) hac3 (by simp only [hpS, eq_self, implies_true, f20, k20, f213]) (by simp only [hpS, eq_self, implies_true, ]) (by simp only [List.length_map, List.length_cons, List.length_nil]; omega) (fun a4 R8 hac4 hn4 => ?_)
    have m20 := hn4 b20 (by simp only [hpS, eq_self, implies_true, f20]) k20
    have m213 := hn4 b213 (by simp only [hpS, eq_self, implies_true, f213]) f213.2.2.2.2
    simp -dsimp (maxDischargeDepth := 9) only [go_sem, zA, zB, zC, zD, zE, zF, zG, gS, f20, f213, m20, m213]
    refine retW_drop (G := hp R8 [(r, cvar s5 c1 c2)]) (leH_hp (by simp only [hpS, eq_self, implies_true, f20, f213, m20, m213]) (by simp only [hpS, eq_self, implies_true, f20, f213, m20, m213])) (retW_is (hK a4 c1 c2 R8 ?_))
    exact AccN.rot (ys := [pcF [fRow 8 0 ot] a4]) hac4
  simp -dsimp (maxDischargeDepth := 9) only [go_sem, zA, zB, zC, zD, zE, zF, zG, gS, g6, f3, h3]
  refine gif_split (fun g7 => ?_) (fun g7 => ?_)
  ·have e : k = 7 := of_decide_eq_true g7
   have hg : ngoal (.mk k (.mk k1 n1 i1 xs1) (.mk k2 n2 i2 xs2) n xs gs) s = ([fRow 9 0 (nwholes gs s).1], (nwholes gs s).2) := by rw [e]; simp [ngoal]
   rw [hg] at hK
   simp -dsimp (maxDischargeDepth := 9) only [go_sem, zA, zB, zC, zD, zE, zF, zG, gS, g7, f3, h3]
   have e7 : decide (k = 7) = true := by rw [e]; rfl
   have e9 : decide (k = 9) = false := by rw [e]; rfl
   refine newK_hp (fun b20 f20 => ?_)
   simp only [off_cons, off_nil] at f20
   simp -dsimp (maxDischargeDepth := 9) only [go_sem, zA, zB, zC, zD, zE, zF, zG, gS, f3, h3, f20, e7, e9]
   have h20 := f20.2.2.2.2
   have hac0 : AccN H0 [r] (cps s a1 a2 ++ [pcF [] .nils, pcF [] a0]) R1 := AccN.rot (xs := [pcF [] .nils, pcF [] a0]) ((AccN.rot (ys := [pcF [] a0]) hacc0).nil _ _)
   refine svc_loop (X := Nat × List Fl × NS × A × A × A × Heap) (fun y => [(0, .ref r 0), (5, a0), (20, .ref b20 0), (195, .d (.slice (gs.map Gl.d))), (196, .d (.int .i64 gs.length)), (197, .d (.int .i64 y.1))])
    (fun y G => G = hp y.2.2.2.2.2.2 [(r, cvar y.2.2.1 y.2.2.2.1 y.2.2.2.2.1), (b20, .var [.d (.int .i64 9), .d (.int .i64 0), .d (.int .i64 0), .d (.int .i64 0), .d (.str ⟨#[]⟩), .d (.int .i64 0), .d (.str ⟨#[]⟩), .d (.int .i64 0), .nils, y.2.2.2.2.2.1])] ∧ AccN H0 [r] (cps y.2.2.1 y.2.2.2.1 y.2.2.2.2.1 ++ [pcF y.2.1 y.2.2.2.2.2.1, pcF [] a0]) y.2.2.2.2.2.2 ∧ y.2.2.2.2.2.2 b20 = none ∧ y.1 ≤ gs.length ∧ (y.2.1 ++ (nwholes (gs.drop y.1) y.2.2.1).1, (nwholes (gs.drop y.1) y.2.2.1).2) = nwholes gs s ∧ y.2.2.1.next + Gl.nodess (gs.drop y.1) ≤ s.next + Gl.nodess gs ∧ y.2.2.1.names.length + Gl.nodess (gs.drop y.1) ≤ s.names.length + Gl.nodess gs ∧ y.2.1.length = y.1)
    (fun y => gs.length - y.1) (0, [], s, a1, a2, .nils, R1) _ ⟨rfl, hac0, h20, Nat.zero_le _, by simp, by simp, by simp, rfl⟩ (by simp -dsimp (maxDischargeDepth := 9) only [go_sem, zA, zB, zC, zD, zE, zF, zG, gS]) (leH_hp (by simp only [hpS, eq_self, implies_true, f3, h3, f20, h20]) (by simp only [hpS, eq_self, implies_true, f3, h3, f20, h20])) ?_
   clear hb3 hacc1 hacc0 hac0
   rintro ⟨j, ot, s5, c1, c2, av, R4⟩ G' ⟨hG, hac, h20, hj, hrun, hnx, hnn, hout⟩
   simp only at hG hac h20 hj hrun hnx hnn hout
   subst hG
   have hgn := Gl.nodess_length gs
   simp -dsimp (maxDischargeDepth := 9) only [go_sem, zA, zB, zC, zD, zE, zF, zG, gS]
   refine gif_split (fun q1 => ?_) (fun q1 => ?_)
   ·have q1' : j < gs.length := by have := of_decide_eq_true q1; omega
    obtain ⟨⟨gk, ⟨g1, m1, j1, y1⟩, ⟨g2, m2, j2, y2⟩, gn, gxs, ggs⟩, hx⟩ := list_at q1'
    have hwj := wrapN (k := j) (by omega)
    have hgm := Gl.nodess_mem (List.mem_of_getElem? hx)
    rw [drop_at hx] at hrun hnx hnn
    simp only [nwholes, Gl.nodess] at hrun hnx hnn
    simp -dsimp (maxDischargeDepth := 9) only [go_sem, zA, zB, zC, zD, zE, zF, zG, gS, q1, hx, Gl.d, Gl.cs, Tm.cs, List.cons_append, List.nil_append, f20, h20]
    refine newK_hp (fun b22 f22 => ?_)
    simp only [off_cons, off_nil] at f22
    simp -dsimp (maxDischargeDepth := 9) only [go_sem, zA, zB, zC, zD, zE, zF, zG, gS, f20, h20, f22]
    obtain ⟨HH, RR, eq, hs5, back⟩ := accN_sub (r := r) (qs := cps s5 c1 c2) (ps := [pcF ot av, pcF [] a0]) (o := cvar s5 c1 c2) (l := [(b20, .var [.d (.int .i64 9), .d (.int .i64 0), .d (.int .i64 0), .d (.int .i64 0), .d (.str ⟨#[]⟩), .d (.int .i64 0), .d (.str ⟨#[]⟩), .d (.int .i64 0), .nils, av]), (b22, .var [.d (.int .i64 gk), .d (.int .i64 g1), .d (.str m1), .d (.int .i64 j1), .d (.slice (Tm.ds y1)), .d (.int .i64 g2), .d (.str m2), .d (.int .i64 j2), .d (.slice (Tm.ds y2)), .d (.str gn), .d (.slice (gxs.map Tm.d)), .d (.slice (Gl.ds ggs))])]) hac (by simp only [hpS, eq_self, implies_true, f20, h20, f22]) (by simp only [hpS, eq_self, implies_true, ]) (by simp only [hpS, eq_self, implies_true, f20, f22])
    rw [eq]
    have hz := ngoal_size (.mk gk (.mk g1 m1 j1 y1) (.mk g2 m2 j2 y2) gn gxs ggs) s5
    have hy := ngoal_names (.mk gk (.mk g1 m1 j1 y1) (.mk g2 m2 j2 y2) gn gxs ggs) s5
    refine goal05_ok m (.mk gk (.mk g1 m1 j1 y1) (.mk g2 m2 j2 y2) gn gxs ggs) (by omega) (Gl.smalls_mem hsg _ (List.mem_of_getElem? hx)) HH RR r s5 c1 c2 hs5 (by omega) (by omega) _ (fun ar d1 d2 RA hac2 => ?_)
    generalize (ngoal (.mk gk (.mk g1 m1 j1 y1) (.mk g2 m2 j2 y2) gn gxs ggs) s5).1 = rw1 at hrun hac2 hz ⊢
    generalize (ngoal (.mk gk (.mk g1 m1 j1 y1) (.mk g2 m2 j2 y2) gn gxs ggs) s5).2 = s6 at hrun hac2 hz hy ⊢
    obtain ⟨RB, hbc, ebb, hnb⟩ := back _ _ hac2
    rw [ebb]
    have k20 := hnb b20 (by simp only [hpS, eq_self, implies_true, f20]) h20
    have k22 := hnb b22 (by simp only [hpS, eq_self, implies_true, f22]) f22.2.2.2.2
    have hok : okK [r] RB [(r, cvar s6 d1 d2), (b20, .var [.d (.int .i64 9), .d (.int .i64 0), .d (.int .i64 0), .d (.int .i64 0), .d (.str ⟨#[]⟩), .d (.int .i64 0), .d (.str ⟨#[]⟩), .d (.int .i64 0), .nils, av]), (b22, .var [.d (.int .i64 gk), .d (.int .i64 g1), .d (.str m1), .d (.int .i64 j1), .d (.slice (Tm.ds y1)), .d (.int .i64 g2), .d (.str m2), .d (.int .i64 j2), .d (.slice (Tm.ds y2)), .d (.str gn), .d (.slice (gxs.map Tm.d)), .d (.slice (Gl.ds ggs))])] := by simp only [hpS, eq_self, implies_true, f20, f22, k20, k22]
    simp -dsimp (maxDischargeDepth := 9) only [go_sem, zA, zB, zC, zD, zE, zF, zG, gS, f20, f22, k20, k22]
    refine ACall.frz [true] ?_
    simp only [frzM]
    refine AccN.deep (pre := []) (p := pcF rw1 ar) (post := cps s6 d1 d2 ++ [pcF ot av, pcF [] a0]) hbc hok (fun R5 hac3 hn3 => ?_)
    have m20 := hn3 b20 k20
    have m22 := hn3 b22 k22
    refine whole05_ok rw1 (by omega) _ _ ?_
    generalize hnw : nwhole rw1 = w at hrun ⊢
    obtain ⟨wk, wx, wy, wi, ⟨wcn, wca⟩, ⟨wpn, wpa⟩, wxs, wgs⟩ := w
    simp -dsimp (maxDischargeDepth := 9) only [go_sem, zA, zB, zC, zD, zE, zF, zG, gS, f20, f22, m20, m22, Fl.d, Fl.cs]
    refine newV_hp (fun b207 v207 f207 w207 => ?_)
    simp only [off_cons, off_nil] at f207
    simp -dsimp (maxDischargeDepth := 9) only [go_sem, zA, zB, zC, zD, zE, zF, zG, gS, f20, f22, m20, m22, f207]
    refine AccN.appTo (pre := cps s6 d1 d2) (p := pcF ot av) (post := [pcF [] a0]) (ns := [(Fl.mk wk wx wy wi ⟨wcn, wca⟩ ⟨wpn, wpa⟩ wxs wgs).d]) hac3 (by simp only [hpS, eq_self, implies_true, f20, f22, m20, m22, f207]) (by simp only [hpS, eq_self, implies_true, ]) (by simp only [List.length_map, List.length_cons, List.length_nil]; omega) (fun av' R6 hac4 hn4 => ?_)
    have o20 := hn4 b20 (by simp only [hpS, eq_self, implies_true, f20]) m20
    have o22 := hn4 b22 (by simp only [hpS, eq_self, implies_true, f22]) m22
    have o207 := hn4 b207 (by simp only [hpS, eq_self, implies_true, f207]) f207.2.2.2.2.2.2
    have oa := AccN.one (pre := cps s6 d1 d2) hac4
    simp only at oa
    simp -dsimp (maxDischargeDepth := 9) only [go_sem, zA, zB, zC, zD, zE, zF, zG, gS, f20, f22, f207, o20, o22, o207, oa, List.length_cons, List.length_nil, hwj]
    have hac5 : AccN H0 [r] (cps s6 d1 d2 ++ [pcF (ot ++ [Fl.mk wk wx wy wi ⟨wcn, wca⟩ ⟨wpn, wpa⟩ wxs wgs]) av', pcF [] a0]) R6 := by
     simp only [pcF, List.map_append, List.map_cons, List.map_nil]; exact hac4
    refine roundQ_next (j + 1, ot ++ [Fl.mk wk wx wy wi ⟨wcn, wca⟩ ⟨wpn, wpa⟩ wxs wgs], s6, d1, d2, av', R6) _ ⟨rfl, hac5, o20, q1', by rw [← hrun]; simp, by simp only; omega, by simp only; omega, by simp [hout]⟩ (by simp only; omega) (by simp -dsimp (maxDischargeDepth := 9) only [go_sem, zA, zB, zC, zD, zE, zF, zG, gS]) (leH_hp (by simp only [hpS, eq_self, implies_true, f20, f22, f207, o20, o22, o207]) (by simp only [hpS, eq_self, implies_true, f20, f22, f207, o20, o22, o207]))
   ·rw [drop_end (by have := of_decide_eq_false q1; omega)] at hrun
    simp only [nwholes, List.append_nil] at hrun
    rw [← hrun] at hK
    simp only at hK
    have hal := AccN.allD (pre := cps s5 c1 c2) (t := []) hac
    simp only at hal
    simp -dsimp (maxDischargeDepth := 9) only [go_sem, zA, zB, zC, zD, zE, zF, zG, gS, q1, f20, h20, hal]
    refine AccN.deep (pre := cps s5 c1 c2) (p := pcF ot av) (post := [pcF [] a0]) hac (by simp only [hpS, eq_self, implies_true, f20, h20]) (fun R5 hac3 hn3 => ?_)
    have k20 := hn3 b20 h20
    simp -dsimp (maxDischargeDepth := 9) only [go_sem, zA, zB, zC, zD, zE, zF, zG, gS, f20, k20]
    refine newV_hp (fun b213 v213 f213 w213 => ?_)
    simp only [off_cons, off_nil] at f213
    simp -dsimp (maxDischargeDepth := 9) only [go_sem, zA, zB, zC, zD, zE, zF, zG, gS, f20, k20, f213]
    have hd := fRow_d 9 0 ot
    rw [← hd]
    refine AccN.appTo (pre := cps s5 c1 c2) (p := pcF [] a0) (post := []) (ns := [(fRow 9 0 ot).d]) hac3 (by simp only [hpS, eq_self, implies_true, f20, k20, f213]) (by simp only [hpS, eq_self, implies_true, ]) (by simp only [List.length_map, List.length_cons, List.length_nil]; omega) (fun a4 R8 hac4 hn4 => ?_)
    have m20 := hn4 b20 (by simp only [hpS, eq_self, implies_true, f20]) k20
    have m213 := hn4 b213 (by simp only [hpS, eq_self, implies_true, f213]) f213.2.2.2.2
    simp -dsimp (maxDischargeDepth := 9) only [go_sem, zA, zB, zC, zD, zE, zF, zG, gS, f20, f213, m20, m213]
    refine retW_drop (G := hp R8 [(r, cvar s5 c1 c2)]) (leH_hp (by simp only [hpS, eq_self, implies_true, f20, f213, m20, m213]) (by simp only [hpS, eq_self, implies_true, f20, f213, m20, m213])) (retW_is (hK a4 c1 c2 R8 ?_))
    exact AccN.rot (ys := [pcF [fRow 9 0 ot] a4]) hac4
  simp -dsimp (maxDischargeDepth := 9) only [go_sem, zA, zB, zC, zD, zE, zF, zG, gS, g7, f3, h3]
  refine gif_split (fun g8 => ?_) (fun g8 => ?_)
  ·have e : k = 9 := of_decide_eq_true g8
   have hg : ngoal (.mk k (.mk k1 n1 i1 xs1) (.mk k2 n2 i2 xs2) n xs gs) s = ([fRow 11 (nnumber n s).1 (nwholes gs (nnumber n s).2).1], (nwholes gs (nnumber n s).2).2) := by rw [e]; simp [ngoal]
   rw [hg] at hK
   have e7 : decide (k = 7) = false := by rw [e]; rfl
   have e9 : decide (k = 9) = true := by rw [e]; rfl
   simp -dsimp (maxDischargeDepth := 9) only [go_sem, zA, zB, zC, zD, zE, zF, zG, gS, g8, f3, h3]
   refine newK_hp (fun b20 f20 => ?_)
   simp only [off_cons, off_nil] at f20
   simp -dsimp (maxDischargeDepth := 9) only [go_sem, zA, zB, zC, zD, zE, zF, zG, gS, f3, h3, f20, e7, e9]
   obtain ⟨HH1, RR1, eq1, hs1, back1⟩ := accN_sub (r := r) (qs := cps s a1 a2) (ps := [pcF [] a0]) (o := cvar s a1 a2) (l := [(b3, .var [.d (.int .i64 k), .d (.int .i64 k1), .d (.str n1), .d (.int .i64 i1), .d (.slice (Tm.ds xs1)), .d (.int .i64 k2), .d (.str n2), .d (.int .i64 i2), .d (.slice (Tm.ds xs2)), .d (.str n), .d (.slice (xs.map Tm.d)), .d (.slice (gs.map Gl.d))]), (b20, .var [.d (.int .i64 11), .d (.int .i64 0), .d (.int .i64 0), .d (.int .i64 0), .d (.str ⟨#[]⟩), .d (.int .i64 0), .d (.str ⟨#[]⟩), .d (.int .i64 0), .nils, .nils])]) hacc0 (by simp only [hpS, eq_self, implies_true, f3, h3, f20]) (by simp only [hpS, eq_self, implies_true, ]) (by simp only [hpS, eq_self, implies_true, f3, h3, f20])
   rw [eq1]
   refine number05_ok ⟨hs1, by omega, by omega⟩ n _ (fun c1 c2 RA1 hac1 => ?_)
   have nn1 := nnumber_names n s
   have nx1 := nnumber_next n s
   have q1 : nnumber n s = ((nnumber n s).1, (nnumber n s).2) := rfl
   generalize (nnumber n s).1 = v1 at q1 hac1 ⊢
   generalize (nnumber n s).2 = s1 at q1 hac1 nn1 nx1 ⊢
   obtain ⟨RB1, hbc1, eb1, hn1⟩ := back1 _ _ hac1
   rw [eb1]
   have b31 := hn1 b3 (by simp only [hpS, eq_self, implies_true, f3]) h3
   have h20 := hn1 b20 (by simp only [hpS, eq_self, implies_true, f20]) f20.2.2.2.2
   simp -dsimp (maxDischargeDepth := 9) only [go_sem, zA, zB, zC, zD, zE, zF, zG, gS, f3, b31, f20, h20]
   rw [q1] at hK
   simp only at hK
   have hac0 : AccN H0 [r] (cps s1 c1 c2 ++ [pcF [] .nils, pcF [] a0]) RB1 := AccN.rot (xs := [pcF [] .nils, pcF [] a0]) ((AccN.rot (ys := [pcF [] a0]) (show AccN H0 [r] (cps s1 c1 c2 ++ [pcF [] a0]) RB1 from hbc1)).nil _ _)
   refine svc_loop (X := Nat × List Fl × NS × A × A × A × Heap) (fun y => [(0, .ref r 0), (5, a0), (20, .ref b20 0), (195, .d (.slice (gs.map Gl.d))), (196, .d (.int .i64 gs.length)), (197, .d (.int .i64 y.1))])
    (fun y G => G = hp y.2.2.2.2.2.2 [(r, cvar y.2.2.1 y.2.2.2.1 y.2.2.2.2.1), (b20, .var [.d (.int .i64 11), .d (.int .i64 v1), .d (.int .i64 0), .d (.int .i64 0), .d (.str ⟨#[]⟩), .d (.int .i64 0), .d (.str ⟨#[]⟩), .d (.int .i64 0), .nils, y.2.2.2.2.2.1])] ∧ AccN H0 [r] (cps y.2.2.1 y.2.2.2.1 y.2.2.2.2.1 ++ [pcF y.2.1 y.2.2.2.2.2.1, pcF [] a0]) y.2.2.2.2.2.2 ∧ y.2.2.2.2.2.2 b20 = none ∧ y.1 ≤ gs.length ∧ (y.2.1 ++ (nwholes (gs.drop y.1) y.2.2.1).1, (nwholes (gs.drop y.1) y.2.2.1).2) = nwholes gs s1 ∧ y.2.2.1.next + Gl.nodess (gs.drop y.1) ≤ s1.next + Gl.nodess gs ∧ y.2.2.1.names.length + Gl.nodess (gs.drop y.1) ≤ s1.names.length + Gl.nodess gs ∧ y.2.1.length = y.1)
    (fun y => gs.length - y.1) (0, [], s1, c1, c2, .nils, RB1) _ ⟨rfl, hac0, h20, Nat.zero_le _, by simp, by simp, by simp, rfl⟩ (by simp -dsimp (maxDischargeDepth := 9) only [go_sem, zA, zB, zC, zD, zE, zF, zG, gS]) (leH_hp (by simp only [hpS, eq_self, implies_true, f3, b31, f20, h20]) (by simp only [hpS, eq_self, implies_true, f3, b31, f20, h20])) ?_
   clear hb3 hacc1 hacc0 hac0
   rintro ⟨j, ot, s5, c1, c2, av, R4⟩ G' ⟨hG, hac, h20, hj, hrun, hnx, hnn, hout⟩
   simp only at hG hac h20 hj hrun hnx hnn hout
   subst hG
   have hgn := Gl.nodess_length gs
   simp -dsimp (maxDischargeDepth := 9) only [go_sem, zA, zB, zC, zD, zE, zF, zG, gS]
   refine gif_split (fun q1 => ?_) (fun q1 => ?_)
   ·have q1' : j < gs.length := by have := of_decide_eq_true q1; omega
    obtain ⟨⟨gk, ⟨g1, m1, j1, y1⟩, ⟨g2, m2, j2, y2⟩, gn, gxs, ggs⟩, hx⟩ := list_at q1'
    have hwj := wrapN (k := j) (by omega)
    have hgm := Gl.nodess_mem (List.mem_of_getElem? hx)
    rw [drop_at hx] at hrun hnx hnn
    simp only [nwholes, Gl.nodess] at hrun hnx hnn
    simp -dsimp (maxDischargeDepth := 9) only [go_sem, zA, zB, zC, zD, zE, zF, zG, gS, q1, hx, Gl.d, Gl.cs, Tm.cs, List.cons_append, List.nil_append, f20, h20]
    refine newK_hp (fun b22 f22 => ?_)
    simp only [off_cons, off_nil] at f22
    simp -dsimp (maxDischargeDepth := 9) only [go_sem, zA, zB, zC, zD, zE, zF, zG, gS, f20, h20, f22]
    obtain ⟨HH, RR, eq, hs5, back⟩ := accN_sub (r := r) (qs := cps s5 c1 c2) (ps := [pcF ot av, pcF [] a0]) (o := cvar s5 c1 c2) (l := [(b20, .var [.d (.int .i64 11), .d (.int .i64 v1), .d (.int .i64 0), .d (.int .i64 0), .d (.str ⟨#[]⟩), .d (.int .i64 0), .d (.str ⟨#[]⟩), .d (.int .i64 0), .nils, av]), (b22, .var [.d (.int .i64 gk), .d (.int .i64 g1), .d (.str m1), .d (.int .i64 j1), .d (.slice (Tm.ds y1)), .d (.int .i64 g2), .d (.str m2), .d (.int .i64 j2), .d (.slice (Tm.ds y2)), .d (.str gn), .d (.slice (gxs.map Tm.d)), .d (.slice (Gl.ds ggs))])]) hac (by simp only [hpS, eq_self, implies_true, f20, h20, f22]) (by simp only [hpS, eq_self, implies_true, ]) (by simp only [hpS, eq_self, implies_true, f20, f22])
    rw [eq]
    have hz := ngoal_size (.mk gk (.mk g1 m1 j1 y1) (.mk g2 m2 j2 y2) gn gxs ggs) s5
    have hy := ngoal_names (.mk gk (.mk g1 m1 j1 y1) (.mk g2 m2 j2 y2) gn gxs ggs) s5
    refine goal05_ok m (.mk gk (.mk g1 m1 j1 y1) (.mk g2 m2 j2 y2) gn gxs ggs) (by omega) (Gl.smalls_mem hsg _ (List.mem_of_getElem? hx)) HH RR r s5 c1 c2 hs5 (by omega) (by omega) _ (fun ar d1 d2 RA hac2 => ?_)
    generalize (ngoal (.mk gk (.mk g1 m1 j1 y1) (.mk g2 m2 j2 y2) gn gxs ggs) s5).1 = rw1 at hrun hac2 hz ⊢
    generalize (ngoal (.mk gk (.mk g1 m1 j1 y1) (.mk g2 m2 j2 y2) gn gxs ggs) s5).2 = s6 at hrun hac2 hz hy ⊢
    obtain ⟨RB, hbc, ebb, hnb⟩ := back _ _ hac2
    rw [ebb]
    have k20 := hnb b20 (by simp only [hpS, eq_self, implies_true, f20]) h20
    have k22 := hnb b22 (by simp only [hpS, eq_self, implies_true, f22]) f22.2.2.2.2
    have hok : okK [r] RB [(r, cvar s6 d1 d2), (b20, .var [.d (.int .i64 11), .d (.int .i64 v1), .d (.int .i64 0), .d (.int .i64 0), .d (.str ⟨#[]⟩), .d (.int .i64 0), .d (.str ⟨#[]⟩), .d (.int .i64 0), .nils, av]), (b22, .var [.d (.int .i64 gk), .d (.int .i64 g1), .d (.str m1), .d (.int .i64 j1), .d (.slice (Tm.ds y1)), .d (.int .i64 g2), .d (.str m2), .d (.int .i64 j2), .d (.slice (Tm.ds y2)), .d (.str gn), .d (.slice (gxs.map Tm.d)), .d (.slice (Gl.ds ggs))])] := by simp only [hpS, eq_self, implies_true, f20, f22, k20, k22]
    simp -dsimp (maxDischargeDepth := 9) only [go_sem, zA, zB, zC, zD, zE, zF, zG, gS, f20, f22, k20, k22]
    refine ACall.frz [true] ?_
    simp only [frzM]
    refine AccN.deep (pre := []) (p := pcF rw1 ar) (post := cps s6 d1 d2 ++ [pcF ot av, pcF [] a0]) hbc hok (fun R5 hac3 hn3 => ?_)
    have m20 := hn3 b20 k20
    have m22 := hn3 b22 k22
    refine whole05_ok rw1 (by omega) _ _ ?_
    generalize hnw : nwhole rw1 = w at hrun ⊢
    obtain ⟨wk, wx, wy, wi, ⟨wcn, wca⟩, ⟨wpn, wpa⟩, wxs, wgs⟩ := w
    simp -dsimp (maxDischargeDepth := 9) only [go_sem, zA, zB, zC, zD, zE, zF, zG, gS, f20, f22, m20, m22, Fl.d, Fl.cs]
    refine newV_hp (fun b207 v207 f207 w207 => ?_)
    simp only [off_cons, off_nil] at f207
    simp -dsimp (maxDischargeDepth := 9) only [go_sem, zA, zB, zC, zD, zE, zF, zG, gS, f20, f22, m20, m22, f207]
    refine AccN.appTo (pre := cps s6 d1 d2) (p := pcF ot av) (post := [pcF [] a0]) (ns := [(Fl.mk wk wx wy wi ⟨wcn, wca⟩ ⟨wpn, wpa⟩ wxs wgs).d]) hac3 (by simp only [hpS, eq_self, implies_true, f20, f22, m20, m22, f207]) (by simp only [hpS, eq_self, implies_true, ]) (by simp only [List.length_map, List.length_cons, List.length_nil]; omega) (fun av' R6 hac4 hn4 => ?_)
    have o20 := hn4 b20 (by simp only [hpS, eq_self, implies_true, f20]) m20
    have o22 := hn4 b22 (by simp only [hpS, eq_self, implies_true, f22]) m22
    have o207 := hn4 b207 (by simp only [hpS, eq_self, implies_true, f207]) f207.2.2.2.2.2.2
    have oa := AccN.one (pre := cps s6 d1 d2) hac4
    simp only at oa
    simp -dsimp (maxDischargeDepth := 9) only [go_sem, zA, zB, zC, zD, zE, zF, zG, gS, f20, f22, f207, o20, o22, o207, oa, List.length_cons, List.length_nil, hwj]
    have hac5 : AccN H0 [r] (cps s6 d1 d2 ++ [pcF (ot ++ [Fl.mk wk wx wy wi ⟨wcn, wca⟩ ⟨wpn, wpa⟩ wxs wgs]) av', pcF [] a0]) R6 := by
     simp only [pcF, List.map_append, List.map_cons, List.map_nil]; exact hac4
    refine roundQ_next (j + 1, ot ++ [Fl.mk wk wx wy wi ⟨wcn, wca⟩ ⟨wpn, wpa⟩ wxs wgs], s6, d1, d2, av', R6) _ ⟨rfl, hac5, o20, q1', by rw [← hrun]; simp, by simp only; omega, by simp only; omega, by simp [hout]⟩ (by simp only; omega) (by simp -dsimp (maxDischargeDepth := 9) only [go_sem, zA, zB, zC, zD, zE, zF, zG, gS]) (leH_hp (by simp only [hpS, eq_self, implies_true, f20, f22, f207, o20, o22, o207]) (by simp only [hpS, eq_self, implies_true, f20, f22, f207, o20, o22, o207]))
   ·rw [drop_end (by have := of_decide_eq_false q1; omega)] at hrun
    simp only [nwholes, List.append_nil] at hrun
    rw [← hrun] at hK
    simp only at hK
    have hal := AccN.allD (pre := cps s5 c1 c2) (t := []) hac
    simp only at hal
    simp -dsimp (maxDischargeDepth := 9) only [go_sem, zA, zB, zC, zD, zE, zF, zG, gS, q1, f20, h20, hal]
    refine AccN.deep (pre := cps s5 c1 c2) (p := pcF ot av) (post := [pcF [] a0]) hac (by simp only [hpS, eq_self, implies_true, f20, h20]) (fun R5 hac3 hn3 => ?_)
    have k20 := hn3 b20 h20
    simp -dsimp (maxDischargeDepth := 9) only [go_sem, zA, zB, zC, zD, zE, zF, zG, gS, f20, k20]
    refine newV_hp (fun b213 v213 f213 w213 => ?_)
    simp only [off_cons, off_nil] at f213
    simp -dsimp (maxDischargeDepth := 9) only [go_sem, zA, zB, zC, zD, zE, zF, zG, gS, f20, k20, f213]
    have hd := fRow_d 11 v1 ot
    rw [← hd]
    refine AccN.appTo (pre := cps s5 c1 c2) (p := pcF [] a0) (post := []) (ns := [(fRow 11 v1 ot).d]) hac3 (by simp only [hpS, eq_self, implies_true, f20, k20, f213]) (by simp only [hpS, eq_self, implies_true, ]) (by simp only [List.length_map, List.length_cons, List.length_nil]; omega) (fun a4 R8 hac4 hn4 => ?_)
    have m20 := hn4 b20 (by simp only [hpS, eq_self, implies_true, f20]) k20
    have m213 := hn4 b213 (by simp only [hpS, eq_self, implies_true, f213]) f213.2.2.2.2
    simp -dsimp (maxDischargeDepth := 9) only [go_sem, zA, zB, zC, zD, zE, zF, zG, gS, f20, f213, m20, m213]
    refine retW_drop (G := hp R8 [(r, cvar s5 c1 c2)]) (leH_hp (by simp only [hpS, eq_self, implies_true, f20, f213, m20, m213]) (by simp only [hpS, eq_self, implies_true, f20, f213, m20, m213])) (retW_is (hK a4 c1 c2 R8 ?_))
    exact AccN.rot (ys := [pcF [fRow 11 v1 ot] a4]) hac4
  ·have e2 : k ≠ 2 := of_decide_eq_false g1
   have hg : ngoal (.mk k (.mk k1 n1 i1 xs1) (.mk k2 n2 i2 xs2) n xs gs) s = ([], s) := by
    simp only [ngoal]
    rw [if_neg (of_decide_eq_false g1), if_neg (of_decide_eq_false g2), if_neg (of_decide_eq_false g3), if_neg (of_decide_eq_false g4), if_neg (of_decide_eq_false g5), if_neg (of_decide_eq_false g6), if_neg (of_decide_eq_false g7), if_neg (of_decide_eq_false g8)]
   rw [hg] at hK
   simp -dsimp (maxDischargeDepth := 9) only [go_sem, zA, zB, zC, zD, zE, zF, zG, gS, g8, f3, h3]
   refine retW_drop (G := hp R1 [(r, cvar s a1 a2)]) (leH_hp (by simp only [hpS, eq_self, implies_true, f3, h3]) (by simp only [hpS, eq_self, implies_true, f3, h3])) (retW_is (hK a0 a1 a2 R1 ?_))
   exact AccN.rot (ys := [pcF [] a0]) hacc0
   
end Go.Aug
