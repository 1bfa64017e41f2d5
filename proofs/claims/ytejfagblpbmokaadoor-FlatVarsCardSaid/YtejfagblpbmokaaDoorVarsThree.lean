/- The contracts of flat.Vars and of the laws that range over it; conditions stand in each contract. -/
import Derived.Test.YtejfagblpbmokaaDoorVarsTwo
import Derived.Test.YtejfagblpbmokaaDoorClausesTwo
set_option linter.all false
set_option linter.unusedVariables false
set_option linter.unusedSimpArgs false
set_option linter.unusedSectionVars false

/- The law FlatVars: the walk. -/
namespace Go.Aug
open Go.Proofs
set_option maxRecDepth 100000
set_option linter.unusedSimpArgs false
attribute [local irreducible] hid andK letA onSome onVar onArr arrOnly onInt onBool onTup idxA ldV ldD addO appTo fillL slA srcK nilQ retW gif sgd sguard svc sops sdops sagain aopO aLoad aStore aBin aUn aConv aLen aIndexAddr aIndex aIndexAddrS aIndexS aSlice aAppend aBuild aBuildSlice aMakeSlice aField aFieldOf aCallOp deepK deepL frzM putE newK newV growV ACall roundQ thenQ inBlockQ sret cnd szs nilC onMap onRow aLookup aMapUpdate aMakeMap
attribute [local go_sem] Int.natCast_zero
/-- A range over a function that ends, or is left by the block around it. -/
theorem svc_rangeB {P : Program} {V : Env} {N : Nat} {g : Operand} {ps : List Nat} {x y : SCode} {Q : Post} {F : Nat → A} {H : Heap} {gf : FuncId} {caps : List A} {xs : List (List A)} {id : Nat} (l : List (Nat × A)) (J : Nat → Heap → Prop) (JE : Heap → Prop) (H0 : Heap)
  (hg : ev V N (mkF l) g = .func gf caps) (hcb : callable P gf = true) (hit : Iter P V gf caps xs) (hps : ∀ x ∈ xs, x.length = ps.length) (h0 : J 0 H0) (hF : FrameIs F l) (hH : LeH H0 H)
  (hr : ∀ i z G, xs[i]? = some z → J i G → svc P V N x (assQ (hid (fun F1 G1 => svc P V N y (rngQ (hid J ⟨⟩) (hid (fun e G => e = .exit id ∧ JE G) ⟨⟩) i) F1 G1) ⟨⟩)) (putL (mkF l) ps z) G)
  (hd : ∀ G, J xs.length G ∨ JE G → Q .normal (mkF l) G) : svc P V N (.range g ps x y) (inBlockQ id Q) F H := by
 refine svc_range l J (fun e G => e = .exit id ∧ JE G) H0 hg hcb hit hps h0 hF hH hr (fun G h => by rw [inBlockQ_normal]; exact hd G (.inl h)) ?_
 rintro e G _ ⟨rfl, h⟩
 rw [inBlockQ_same]
 exact hd G (.inr h)
theorem errN_ne {e : Nat} (h : e ≠ 0) : errN e ≠ 0 := by unfold errN; repeat' split; all_goals (first | omega | simp_all)
set_option maxHeartbeats 8000000 in
theorem flatVars_ok {eb : EbG} [ho1 : On eb 1] [ho2 : On eb 2] (s : ByteArray) (stop : Int) (H : Heap) (K : A → Heap → Prop) (hK : K (.d (.bool true)) H) : ACall Tryd.prog (seatV eb) 12 [.d (.str s), .d (.int .i64 stop)] H K := by
 refine ACall.hp_start ?_
 refine ACall.by mixed fn12 (by simp) ?_
 conv in s12 => cbv
 refine svc_start ?_
 simp -dsimp only [go_sem, gS]
 refine newK_hp (fun b3 f3 => ?_)
 simp only [off_cons, off_nil] at f3
 simp -dsimp only [go_sem, gS, f3]
 refine newK_hp (fun b4 f4 => ?_)
 simp only [off_cons, off_nil] at f4
 simp -dsimp only [go_sem, gS, f3, f4]
 refine alive13_ok _ _ ?_
 simp -dsimp only [go_sem, gS, f3, f4]
 refine named_ok _ s _ ?_
 cases hx : (rnamed s).2 with
 | none =>
  simp -dsimp only [go_sem, gS, ixD, Option.getD_none, Option.isSome_none, Ix.d, Ix.cs, f3, f4]
  refine newK_hp (fun b6 f6 => ?_)
  simp only [off_cons, off_nil] at f6
  simp -dsimp only [go_sem, gS, f3, f4, f6]
  exact retW_drop (G := H) (leH_hp0 (by simp only [hpS, eq_self, implies_true, f3, f4, f6])) (retW_is hK)
 | some x =>
  obtain ⟨hl, hof⟩ := named_flat hx
  have htx := rtext_txt s
  rw [hl]
  generalize (rtext s).1 = l at hof htx ⊢
  have hpk := hof.at htx.small
  have hpl : x.preds.length ≤ 519 := by have := hof.few; have := htx.few; omega
  obtain ⟨xts, xcs, ps⟩ := x
  simp only at hpk hpl
  simp -dsimp only [go_sem, gS, ixD, Option.getD_some, Option.isSome_some, Ix.d, Ix.cs, f3, f4]
  refine newK_hp (fun b6 f6 => ?_)
  simp only [off_cons, off_nil] at f6
  simp -dsimp only [go_sem, gS, f3, f4, f6]
  refine newK_hp (fun b8 f8 => ?_)
  simp only [off_cons, off_nil] at f8
  simp -dsimp only [go_sem, gS, f3, f4, f6, f8]
  refine svc_step (HStep.nils (b := b8) (cs := [.d (.int .i64 0), .d (.int .i64 0), .d (.int .i64 0), .d (.int .i64 0), .d (.str ⟨#[]⟩), .d (.int .i64 0), .d (.str ⟨#[]⟩), .d (.int .i64 0), .nils, .nils]) (by simp only [hpS, eq_self, implies_true, f3, f4, f6, f8])) ?_
  simp -dsimp only [go_sem, gS, f3, f4, f6, f8, deN, List.map_cons, List.map_nil]
  refine svc_loop (X := Nat × Fl) (fun u => [(3, .ref b3 0), (4, .ref b4 0), (5, .d (.slice (l.map It.d))), (6, .ref b6 0), (8, .ref b8 0), (28, .d (.slice (ps.map Pr.d))), (29, .d (.int .i64 ps.length)), (30, .d (.int .i64 u.1))])
   (fun u G => G = hp H [(b3, .var [.d (.int .i64 stop)]), (b4, .var [.d (.bool false)]), (b6, .var [.d (.slice (xts.map It.d)), .d (.slice (xcs.map Cr.d)), .d (.slice (ps.map Pr.d))]), (b8, .var (u.2.cs.map .d))] ∧ u.1 ≤ ps.length ∧ u.2.fit) (fun u => ps.length - u.1) (0, fl0) _ ⟨rfl, Nat.zero_le _, fl0_fit⟩ (by simp -dsimp only [go_sem, gS]) (leH_hp (by simp only [hpS, eq_self, implies_true, f3, f4, f6, f8, fl0, Fl.cs, ky0, Fl.ds, List.map_cons, List.map_nil]) (by simp only [hpS, eq_self, implies_true, f3, f4, f6, f8, fl0, Fl.cs, ky0, Fl.ds, List.map_cons, List.map_nil])) ?_
  rintro ⟨j, last⟩ G ⟨hG, hj, hlf⟩
  simp only at hG hj hlf
  subst hG
  simp -dsimp only [go_sem, gS]
  refine gif_split (fun q1 => ?_) (fun q1 => ?_)
  ·have q1' : j < ps.length := by have := of_decide_eq_true q1; omega
   obtain ⟨p, hp⟩ := list_at q1'
   have hok := hpk p (List.mem_of_getElem? hp)
   have hin := fun h0 => nflat_in htx (x := ⟨xts, xcs, ps⟩) hpk (q := p.key) h0
   have hft := nflat_fit htx (x := ⟨xts, xcs, ps⟩) hpk p.key
   obtain ⟨⟨pkn, pka⟩, pts, pms, pcs⟩ := p
   have hw := wrapN (k := j) (by omega)
   have har := hok.ar
   simp only at har hin hft
   simp -dsimp only [go_sem, gS, q1, hp, f3, f4, f6, f8, Pr.d, Pr.cs]
   refine newK_hp (fun b10 f10 => ?_)
   simp only [off_cons, off_nil] at f10
   simp -dsimp only [go_sem, gS, f3, f4, f6, f8, f10]
   refine flatten05_any htx (x := ⟨xts, xcs, ps⟩) hpl hpk ⟨pkn, pka⟩ _ _ ?_
   generalize nflat l ⟨xts, xcs, ps⟩ ⟨pkn, pka⟩ = z at hin hft ⊢
   obtain ⟨e, ⟨bkn, bka⟩, bv, body⟩ := z
   simp only at hin hft
   by_cases h0 : e = 0
   ·obtain ⟨hk1, hk2, hk3, hk4⟩ := hin h0
    cases hk1
    subst h0
    have hn0 : 0 ≤ bv := by have := har.1; omega
    have hk5 : body.okG (numIn bv.toNat) := hk4.mono fun v ⟨k, e1, e2⟩ => ⟨k, e1, by omega⟩
    have hvs := fun H K h => vars_ok (eb := eb) (n := bv.toNat) (by omega) body hk5 H K h
    have hvs5 := fun H K h => vars05_ok (eb := eb) (n := bv.toNat) (by omega) body.nodes body (Nat.le_refl _) hk5 H K h
    have hnums := (Nums.nil bv.toNat).vars hk5
    have hs1 := fun H K h => flatSame_ok (eb := eb) body.nodes body last (Nat.le_refl _) hft hlf H K h
    have hs2 := fun H K h => same05_ok (eb := eb) body.nodes body last (Nat.le_refl _) hft hlf H K h
    generalize eqB body last = bb at hs1 hs2
    have hbb : (!bb == bb) = false := by cases bb <;> rfl
    generalize fVars body [] = vs at hvs hvs5 hnums
    have hvl := hnums.len
    have hz : errN 0 = 0 := rfl
    obtain ⟨bk, bx, by', bi, ⟨bcn, bca⟩, ⟨bpn, bpa⟩, bxs, bgs⟩ := body
    obtain ⟨lk, lx, ly, li, ⟨lcn, lca⟩, ⟨lpn, lpa⟩, lxs, lgs⟩ := last
    simp -dsimp only [go_sem, gS, f3, f4, f6, f8, f10, FP.d, FP.cs, Fl.cs, List.cons_append, List.nil_append, hz, List.map_cons, List.map_nil]
    refine newK_hp (fun b11 f11 => ?_)
    simp only [off_cons, off_nil] at f11
    simp -dsimp only [go_sem, gS, f3, f4, f6, f8, f10, f11]
    refine hvs5 _ _ ?_
    simp -dsimp only [go_sem, gS, f3, f4, f6, f8, f10, f11]
    refine newK_hp (fun b13 f13 => ?_)
    simp only [off_cons, off_nil] at f13
    simp -dsimp only [go_sem, gS, f3, f4, f6, f8, f10, f11, f13]
    refine newK_hp (fun b14 f14 => ?_)
    simp only [off_cons, off_nil] at f14
    simp -dsimp only [go_sem, gS, f3, f4, f6, f8, f10, f11, f13, f14]
    refine hvs _ _ ?_
    simp -dsimp only [go_sem, gS, f3, f4, f6, f8, f10, f11, f13, f14]
    refine svc_rangeB [(49, seqV vs), (3, .ref b3 0), (4, .ref b4 0), (5, .d (.slice (l.map It.d))), (6, .ref b6 0), (8, .ref b8 0), (11, .ref b11 0), (13, .ref b13 0), (14, .ref b14 0), (28, .d (.slice (ps.map Pr.d))), (29, .d (.int .i64 ps.length)), (30, .d (.int .i64 j))]
     (fun i G => G = Aug.hp H [(b3, .var [.d (.int .i64 stop)]), (b4, .var [.d (.bool false)]), (b6, .var [.d (.slice (xts.map It.d)), .d (.slice (xcs.map Cr.d)), .d (.slice (ps.map Pr.d))]), (b8, .var [.d (.int .i64 lk), .d (.int .i64 lx), .d (.int .i64 ly), .d (.int .i64 li), .d (.str lcn), .d (.int .i64 lca), .d (.str lpn), .d (.int .i64 lpa), .d (.slice (lxs.map (.int .i64))), .d (.slice (Fl.ds lgs))]), (b10, .var [.d (.str pkn), .d (.int .i64 pka), .d (.slice (pts.map Ty.d)), .d (.slice (pms.map Md.d)), .d (.slice (pcs.map (.int .i64)))]), (b11, .var [.d (.str pkn), .d (.int .i64 pka), .d (.int .i64 bv), .d (.int .i64 bk), .d (.int .i64 bx), .d (.int .i64 by'), .d (.int .i64 bi), .d (.str bcn), .d (.int .i64 bca), .d (.str bpn), .d (.int .i64 bpa), .d (.slice (bxs.map (.int .i64))), .d (.slice (Fl.ds bgs))]), (b13, .var [.d (.slice (vs.map (.int .i64)))]), (b14, .var [.d (.int .i64 (i : Nat))])]) (fun G => ∃ i : Nat, i ≤ vs.length ∧ (i : Int) = stop ∧ G = Aug.hp H [(b3, .var [.d (.int .i64 stop)]), (b4, .var [.d (.bool false)]), (b6, .var [.d (.slice (xts.map It.d)), .d (.slice (xcs.map Cr.d)), .d (.slice (ps.map Pr.d))]), (b8, .var [.d (.int .i64 lk), .d (.int .i64 lx), .d (.int .i64 ly), .d (.int .i64 li), .d (.str lcn), .d (.int .i64 lca), .d (.str lpn), .d (.int .i64 lpa), .d (.slice (lxs.map (.int .i64))), .d (.slice (Fl.ds lgs))]), (b10, .var [.d (.str pkn), .d (.int .i64 pka), .d (.slice (pts.map Ty.d)), .d (.slice (pms.map Md.d)), .d (.slice (pcs.map (.int .i64)))]), (b11, .var [.d (.str pkn), .d (.int .i64 pka), .d (.int .i64 bv), .d (.int .i64 bk), .d (.int .i64 bx), .d (.int .i64 by'), .d (.int .i64 bi), .d (.str bcn), .d (.int .i64 bca), .d (.str bpn), .d (.int .i64 bpa), .d (.slice (bxs.map (.int .i64))), .d (.slice (Fl.ds bgs))]), (b13, .var [.d (.slice (vs.map (.int .i64)))]), (b14, .var [.d (.int .i64 (i : Nat))])]) _ (by simp -dsimp only [go_sem, gS]) callV2 (iterV_ok vs (by omega)) (fun z hz => by obtain ⟨v, _, rfl⟩ := List.mem_map.1 hz; rfl) rfl (by simp -dsimp only [go_sem, gS]) (.refl _) ?_ ?_
    ·rintro i z G hz rfl
     rw [List.getElem?_map, Option.map_eq_some_iff] at hz
     obtain ⟨v, hv, rfl⟩ := hz
     have hi := (List.getElem?_eq_some_iff.1 hv).1
     have hwi := wrapN (k := i) (by omega)
     have hq1 : decide ((i : Int) ≥ (vs.length : Int)) = false := by simp; omega
     simp -dsimp only [go_sem, gS, f3, f4, f6, f8, f10, f11, f13, f14, hq1, hv, List.getElem?_map, Option.map_some, decide_true, List.length_map]
     simp -dsimp only [go_sem, gS, f3, f4, f6, f8, f10, f11, f13, f14, hwi]
     refine gif_split (fun g1 => ?_) (fun g1 => ?_)
     ·have e1 : (((i + 1 : Nat)) : Int) = stop := of_decide_eq_true g1
      simp -dsimp only [go_sem, gS, f3, f4, f6, f8, f10, f11, f13, f14, hwi, g1]
      exact rngX_exit _ ⟨rfl, i + 1, hi, e1, rfl⟩ (.refl _)
     ·simp -dsimp only [go_sem, gS, f3, f4, f6, f8, f10, f11, f13, f14, hwi, g1]
      exact rngK_next _ rfl (.refl _)
    ·intro G hG
     obtain ⟨i, hi, hc, hG⟩ : ∃ i : Nat, i ≤ vs.length ∧ (i = vs.length ∨ (i : Int) = stop) ∧ G = Aug.hp H [(b3, .var [.d (.int .i64 stop)]), (b4, .var [.d (.bool false)]), (b6, .var [.d (.slice (xts.map It.d)), .d (.slice (xcs.map Cr.d)), .d (.slice (ps.map Pr.d))]), (b8, .var [.d (.int .i64 lk), .d (.int .i64 lx), .d (.int .i64 ly), .d (.int .i64 li), .d (.str lcn), .d (.int .i64 lca), .d (.str lpn), .d (.int .i64 lpa), .d (.slice (lxs.map (.int .i64))), .d (.slice (Fl.ds lgs))]), (b10, .var [.d (.str pkn), .d (.int .i64 pka), .d (.slice (pts.map Ty.d)), .d (.slice (pms.map Md.d)), .d (.slice (pcs.map (.int .i64)))]), (b11, .var [.d (.str pkn), .d (.int .i64 pka), .d (.int .i64 bv), .d (.int .i64 bk), .d (.int .i64 bx), .d (.int .i64 by'), .d (.int .i64 bi), .d (.str bcn), .d (.int .i64 bca), .d (.str bpn), .d (.int .i64 bpa), .d (.slice (bxs.map (.int .i64))), .d (.slice (Fl.ds bgs))]), (b13, .var [.d (.slice (vs.map (.int .i64)))]), (b14, .var [.d (.int .i64 (i : Nat))])] := by
      rcases hG with h | ⟨i, h1, h2, h3⟩
      ·exact ⟨vs.length, Nat.le_refl _, .inl rfl, by simpa only [List.length_map] using h⟩
      ·exact ⟨i, h1, .inr h2, h3⟩
     subst hG
     by_cases hc1 : i = vs.length
     ·have qa : decide ((i : Int) = (vs.length : Int)) = true := by simp [hc1]
      simp -dsimp only [go_sem, gS, f3, f4, f6, f8, f10, f11, f13, f14, qa, decide_true]
      refine hs1 _ _ ?_
      simp -dsimp only [go_sem, gS, f3, f4, f6, f8, f10, f11, f13, f14, qa, decide_true]
      refine hs2 _ _ ?_
      simp -dsimp only [go_sem, gS, f3, f4, f6, f8, f10, f11, f13, f14, qa, decide_true, hw, hbb]
      refine roundQ_next (j + 1, Fl.mk bk bx by' bi (Ky.mk bcn bca) (Ky.mk bpn bpa) bxs bgs) _ ⟨rfl, q1', hft⟩ (by simp only; omega) (by simp -dsimp only [go_sem, gS]) (leH_hp (by simp only [hpS, eq_self, implies_true, f3, f4, f6, f8, f10, f11, f13, f14, Fl.cs, List.map_cons, List.map_nil]) (by simp only [hpS, eq_self, implies_true, f3, f4, f6, f8, f10, f11, f13, f14, Fl.cs, List.map_cons, List.map_nil]))
     ·have qa : decide ((i : Int) = (vs.length : Int)) = false := by simp; omega
      have qb : decide ((i : Int) = stop) = true := by rcases hc with h | h; exact absurd h hc1; simp [h]
      simp -dsimp only [go_sem, gS, f3, f4, f6, f8, f10, f11, f13, f14, qa, qb, decide_true]
      refine hs1 _ _ ?_
      simp -dsimp only [go_sem, gS, f3, f4, f6, f8, f10, f11, f13, f14, qa, qb, decide_true]
      refine hs2 _ _ ?_
      simp -dsimp only [go_sem, gS, f3, f4, f6, f8, f10, f11, f13, f14, qa, qb, decide_true, hw, hbb]
      refine roundQ_next (j + 1, Fl.mk bk bx by' bi (Ky.mk bcn bca) (Ky.mk bpn bpa) bxs bgs) _ ⟨rfl, q1', hft⟩ (by simp only; omega) (by simp -dsimp only [go_sem, gS]) (leH_hp (by simp only [hpS, eq_self, implies_true, f3, f4, f6, f8, f10, f11, f13, f14, Fl.cs, List.map_cons, List.map_nil]) (by simp only [hpS, eq_self, implies_true, f3, f4, f6, f8, f10, f11, f13, f14, Fl.cs, List.map_cons, List.map_nil]))
   ·have hz : decide (errN e = 0) = false := decide_eq_false (errN_ne h0)
    obtain ⟨bk, bx, by', bi, ⟨bcn, bca⟩, ⟨bpn, bpa⟩, bxs, bgs⟩ := body
    simp -dsimp only [go_sem, gS, f3, f4, f6, f8, f10, FP.d, FP.cs, Fl.cs, List.cons_append, List.nil_append]
    refine newK_hp (fun b11 f11 => ?_)
    simp only [off_cons, off_nil] at f11
    simp -dsimp only [go_sem, gS, f3, f4, f6, f8, f10, f11, hz, hw]
    refine roundQ_next (j + 1, last) _ ⟨rfl, q1', hlf⟩ (by simp only; omega) (by simp -dsimp only [go_sem, gS]) (leH_hp (by simp only [hpS, eq_self, implies_true, f3, f4, f6, f8, f10, f11]) (by simp only [hpS, eq_self, implies_true, f3, f4, f6, f8, f10, f11]))
  ·simp -dsimp only [go_sem, gS, q1, f3, f4, f6, f8]
   exact retW_drop (G := H) (leH_hp0 (by simp only [hpS, eq_self, implies_true, f3, f4, f6, f8])) (retW_is hK)
end Go.Aug
