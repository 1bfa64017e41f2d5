/- The contracts of flat.Vars and of the laws that range over it; conditions stand in each contract. -/
import Derived.Test.YtejfagblpbmokaaDoorVarsOne
import Derived.Test.YtejfagblpbmokaaDoorVarsTwo
import Derived.Test.YtejfagblpbmokaaDoorVarsThree
import Derived.Test.YtejfagblpbmokaaDoorFlatTwo
set_option linter.all false
set_option linter.unusedVariables false
set_option linter.unusedSimpArgs false
set_option linter.unusedSectionVars false

/- The law FlatCounts: the walk. -/
namespace Go.Aug
open Go.Proofs
set_option maxRecDepth 100000
set_option linter.unusedSimpArgs false
attribute [local irreducible] hid andK letA onSome onVar onArr arrOnly onInt onBool onTup idxA ldV ldD addO appTo fillL slA srcK nilQ retW gif sgd sguard svc sops sdops sagain aopO aLoad aStore aBin aUn aConv aLen aIndexAddr aIndex aIndexAddrS aIndexS aSlice aAppend aBuild aBuildSlice aMakeSlice aField aFieldOf aCallOp deepK deepL frzM putE newK newV growV ACall roundQ thenQ inBlockQ sret cnd szs nilC onMap onRow aLookup aMapUpdate aMakeMap
attribute [local go_sem] Int.natCast_zero
theorem sumCnt_le {l : List It} : ∀ {ls : List It}, (∀ it ∈ ls, it.nodes ≤ 98313) → sumCnt ls ≤ ls.length * 98313
 | [], _ => by simp [sumCnt]
 | it :: ls, h => by
  have h1 := h it (.head _)
  have h2 := sumCnt_le (l := l) (ls := ls) fun x hx => h x (.tail _ hx)
  have h3 : it.cnt ≤ it.nodes := by have := it.body.cnt_le; have := Tm.cnts_le it.args; simp only [It.cnt, It.nodes]; omega
  simp only [sumCnt, List.length_cons, Nat.succ_mul]; omega
set_option maxHeartbeats 16000000 in
theorem flatCounts_ok {eb : EbG} [ho1 : On eb 1] [ho2 : On eb 2] (s : ByteArray) (H : Heap) (K : A → Heap → Prop) (hK : K (.d (.bool true)) H) : ACall Tryd.prog (seatV eb) 10 [.d (.str s)] H K := by
 refine ACall.hp_start ?_
 refine ACall.by mixed fn10 (by simp) ?_
 conv in s10 => cbv
 refine svc_start ?_
 simp -dsimp only [go_sem, gS]
 refine newK_hp (fun b2 f2 => ?_)
 simp only [off_cons, off_nil] at f2
 simp -dsimp only [go_sem, gS, f2]
 refine alive13_ok _ _ ?_
 simp -dsimp only [go_sem, gS, f2]
 refine named_ok _ s _ ?_
 cases hx : (rnamed s).2 with
 | none =>
  simp -dsimp only [go_sem, gS, ixD, Option.getD_none, Option.isSome_none, Ix.d, Ix.cs, f2]
  refine newK_hp (fun b4 f4 => ?_)
  simp only [off_cons, off_nil] at f4
  simp -dsimp only [go_sem, gS, f2, f4]
  exact retW_drop (G := H) (leH_hp0 (by simp only [hpS, eq_self, implies_true, f2, f4])) (retW_is hK)
 | some x =>
  obtain ⟨hl, hof⟩ := named_flat hx
  have htx := rtext_txt s
  have hwf := rtext_wf s
  rw [hl]
  generalize (rtext s).1 = l at hof htx hwf ⊢
  have hpk := hof.at htx.small
  have hnd := hof.nodup
  have hpl : x.preds.length ≤ 519 := by have := hof.few; have := htx.few; omega
  obtain ⟨xts, xcs, ps⟩ := x
  simp only at hpk hpl hnd
  simp -dsimp only [go_sem, gS, ixD, Option.getD_some, Option.isSome_some, Ix.d, Ix.cs, f2]
  refine newK_hp (fun b4 f4 => ?_)
  simp only [off_cons, off_nil] at f4
  simp -dsimp only [go_sem, gS, f2, f4]
  refine svc_loop (X := Nat) (fun j => [(2, .ref b2 0), (3, .d (.slice (l.map It.d))), (4, .ref b4 0), (31, .d (.slice (ps.map Pr.d))), (32, .d (.int .i64 ps.length)), (33, .d (.int .i64 j))])
   (fun j G => G = hp H [(b2, .var [.d (.bool false)]), (b4, .var [.d (.slice (xts.map It.d)), .d (.slice (xcs.map Cr.d)), .d (.slice (ps.map Pr.d))])] ∧ j ≤ ps.length) (fun j => ps.length - j) 0 _ ⟨rfl, Nat.zero_le _⟩ (by simp -dsimp only [go_sem, gS]) (.refl _) ?_
  rintro j G ⟨hG, hj⟩
  subst hG
  simp -dsimp only [go_sem, gS]
  refine gif_split (fun q1 => ?_) (fun q1 => ?_)
  ·have q1' : j < ps.length := by have := of_decide_eq_true q1; omega
   obtain ⟨p, hp⟩ := list_at q1'
   have hok := hpk p (List.mem_of_getElem? hp)
   have hin := fun h0 => nflat_in htx (x := ⟨xts, xcs, ps⟩) hpk (q := p.key) h0
   have hct := fun h0 => nflat_counts htx hwf (x := ⟨xts, xcs, ps⟩) hnd hpk hp h0
   obtain ⟨⟨pkn, pka⟩, pts, pms, pcs⟩ := p
   have hw := wrapN (k := j) (by omega)
   have har := hok.ar
   have hcl := hok.cl
   have hrg := hok.range
   have hpf := hok.few
   have hlf := htx.few
   simp only at har hin hct hcl hrg hpf
   simp -dsimp only [go_sem, gS, q1, hp, f2, f4, Pr.d, Pr.cs]
   refine newK_hp (fun b7 f7 => ?_)
   simp only [off_cons, off_nil] at f7
   simp -dsimp only [go_sem, gS, f2, f4, f7]
   refine flatten_at htx (x := ⟨xts, xcs, ps⟩) hpl hpk ⟨pkn, pka⟩ har.1 (by simp only; omega) _ _ ?_
   generalize nflat l ⟨xts, xcs, ps⟩ ⟨pkn, pka⟩ = z at hin hct ⊢
   obtain ⟨e, ⟨bkn, bka⟩, bv, body⟩ := z
   simp only at hin hct
   by_cases h0 : e = 0
   ·obtain ⟨hk1, hk2, hk3, hk4⟩ := hin h0
    have hct2 := hct h0
    cases hk1
    subst h0
    have hn0 : 0 ≤ bv := by have := har.1; omega
    obtain ⟨bn, rfl⟩ : ∃ n : Nat, bv = (n : Int) := ⟨bv.toNat, by omega⟩
    have hits : ∀ it ∈ atIts l pcs, it.nodes ≤ 98313 := fun it hit => by
     obtain ⟨c, hc, rfl⟩ := List.mem_map.1 hit
     obtain ⟨y, h1, _, h2⟩ := hcl c hc
     rw [List.getD_eq_getElem?_getD, h1, Option.getD_some]
     exact htx.nodes y (List.mem_of_getElem? h1)
    have hsum := sumCnt_le (l := l) hits
    have hal : (atIts l pcs).length = pcs.length := by simp [atIts]
    have htb : sumCnt (atIts l pcs) ≤ 1099511627774 := by rw [hal] at hsum; omega
    generalize htot : sumCnt (atIts l pcs) = total at htb
    have hof5 := fun H K h => ofFlat_ok (eb := eb) body.nodes body (Nat.le_refl _) hk4.fit (by rw [hct2.cnt, htot]; exact htb) H K h
    rw [hct2.cnt, htot] at hof5
    obtain ⟨bk, bx, by', bi, ⟨bcn, bca⟩, ⟨bpn, bpa⟩, bxs, bgs⟩ := body
    have hz : errD 0 = .raw .nilIface := rfl
    simp -dsimp only [go_sem, gS, f2, f4, f7, FP.d, FP.cs, Fl.cs, List.cons_append, List.nil_append, hz]
    refine newK_hp (fun b8 f8 => ?_)
    simp only [off_cons, off_nil] at f8
    simp -dsimp only [go_sem, gS, f2, f4, f7, f8]
    refine andK_split rfl ?_
    simp -dsimp only [go_sem, gS, f2, f4, f7, f8]
    refine svc_loop (X := Nat × Nat) (fun u => [(2, .ref b2 0), (3, .d (.slice (l.map It.d))), (4, .ref b4 0), (7, .ref b7 0), (8, .ref b8 0), (10, .d (.int .i64 u.2)), (31, .d (.slice (ps.map Pr.d))), (32, .d (.int .i64 ps.length)), (33, .d (.int .i64 j)), (48, .d (.slice (pcs.map (.int .i64)))), (49, .d (.int .i64 pcs.length)), (50, .d (.int .i64 u.1))])
     (fun u G => G = Aug.hp H [(b2, .var [.d (.bool false)]), (b4, .var [.d (.slice (xts.map It.d)), .d (.slice (xcs.map Cr.d)), .d (.slice (ps.map Pr.d))]), (b7, .var [.d (.str pkn), .d (.int .i64 pka), .d (.slice (pts.map Ty.d)), .d (.slice (pms.map Md.d)), .d (.slice (pcs.map (.int .i64)))]), (b8, .var [.d (.str pkn), .d (.int .i64 pka), .d (.int .i64 (bn : Int)), .d (.int .i64 bk), .d (.int .i64 bx), .d (.int .i64 by'), .d (.int .i64 bi), .d (.str bcn), .d (.int .i64 bca), .d (.str bpn), .d (.int .i64 bpa), .d (.slice (bxs.map (.int .i64))), .d (.slice (Fl.ds bgs))])] ∧ u.1 ≤ pcs.length ∧ u.2 + sumCnt (atIts l (pcs.drop u.1)) = total) (fun u => pcs.length - u.1) (0, 0) _ ⟨rfl, Nat.zero_le _, by rw [← htot]; simp⟩ (by simp -dsimp only [go_sem, gS]) (.refl _) ?_
    rintro ⟨jj, cc⟩ G ⟨hG, hjj, hcc⟩
    simp only at hG hjj hcc
    subst hG
    simp -dsimp only [go_sem, gS]
    refine gif_split (fun q2 => ?_) (fun q2 => ?_)
    ·have q2' : jj < pcs.length := by have := of_decide_eq_true q2; omega
     obtain ⟨c, hc⟩ := list_at q2'
     have hcm := List.mem_of_getElem? hc
     have hd : pcs.drop jj = c :: pcs.drop (jj + 1) := by rw [List.drop_eq_getElem_cons q2']; rw [List.getElem?_eq_getElem q2'] at hc; cases hc; rfl
     obtain ⟨y, hy, -, -⟩ := hcl c hcm
     have hcr := hrg c hcm
     have hym := List.mem_of_getElem? hy
     have hys := htx.small y hym
     have hyn := htx.nodes y hym
     have hy0 : l.getD c.toNat default = y := by rw [List.getD_eq_getElem?_getD, hy, Option.getD_some]
     have hst : sumCnt (atIts l (pcs.drop jj)) = y.cnt + sumCnt (atIts l (pcs.drop (jj + 1))) := by rw [hd]; show It.cnt (l.getD c.toNat default) + _ = _; rw [hy0]; rfl
     rw [hst] at hcc
     have hwjj := wrapN (k := jj) (by omega)
     have hyc : y.cnt = y.body.cnt + Tm.cnts y.args := rfl
     rw [hyc] at hcc
     have hbb : y.body.cnt ≤ 1099511627774 := by omega
     have ihb := fun H K h => ofGoal_ok (eb := eb) _ y.body (Nat.le_refl _) hys.body hbb H K h
     have hwb := wrapAdd (a := cc) (b := y.body.cnt) (by omega)
     have hya := hys.args
     clear hst hyc hbb
     obtain ⟨yk, yn, yv, yc, yt, yw, yd, its, ybd⟩ := y
     simp only at hcc ihb hwb hya
     generalize ybd.cnt = bc at hcc ihb hwb
     obtain ⟨gk, ⟨ak, an, ai, ats⟩, ⟨bk2, b2n, bi2, bts⟩, gn, gxs, ggs⟩ := ybd
     simp -dsimp only [go_sem, gS, q2, hc, f2, f4, f7, f8, List.getElem?_map, Option.map_some]
     refine andK_split hcr.1 ?_
     simp -dsimp only [go_sem, gS, hy, f2, f4, f7, f8, List.getElem?_map, Option.map_some, It.d, It.cs, Gl.cs, Tm.cs, List.cons_append, List.nil_append]
     refine ihb _ _ ?_
     simp -dsimp only [go_sem, gS, f2, f4, f7, f8, hwb]
     refine andK_split hcr.1 ?_
     simp -dsimp only [go_sem, gS, hy, f2, f4, f7, f8, List.getElem?_map, Option.map_some, It.d, It.cs, Gl.cs, Tm.cs, List.cons_append, List.nil_append]
     refine svc_loop (X := Nat × Nat) (fun u => [(2, .ref b2 0), (3, .d (.slice (l.map It.d))), (4, .ref b4 0), (7, .ref b7 0), (8, .ref b8 0), (10, .d (.int .i64 u.2)), (31, .d (.slice (ps.map Pr.d))), (32, .d (.int .i64 ps.length)), (33, .d (.int .i64 j)), (48, .d (.slice (pcs.map (.int .i64)))), (49, .d (.int .i64 pcs.length)), (50, .d (.int .i64 jj)), (66, .d (.slice (its.map Tm.d))), (67, .d (.int .i64 its.length)), (68, .d (.int .i64 u.1))])
      (fun u G => G = Aug.hp H [(b2, .var [.d (.bool false)]), (b4, .var [.d (.slice (xts.map It.d)), .d (.slice (xcs.map Cr.d)), .d (.slice (ps.map Pr.d))]), (b7, .var [.d (.str pkn), .d (.int .i64 pka), .d (.slice (pts.map Ty.d)), .d (.slice (pms.map Md.d)), .d (.slice (pcs.map (.int .i64)))]), (b8, .var [.d (.str pkn), .d (.int .i64 pka), .d (.int .i64 (bn : Int)), .d (.int .i64 bk), .d (.int .i64 bx), .d (.int .i64 by'), .d (.int .i64 bi), .d (.str bcn), .d (.int .i64 bca), .d (.str bpn), .d (.int .i64 bpa), .d (.slice (bxs.map (.int .i64))), .d (.slice (Fl.ds bgs))])] ∧ u.1 ≤ its.length ∧ u.2 + Tm.cnts (its.drop u.1) = cc + bc + Tm.cnts its) (fun u => its.length - u.1) (0, cc + bc) _ ⟨rfl, Nat.zero_le _, rfl⟩ (by simp -dsimp only [go_sem, gS]) (.refl _) ?_
     rintro ⟨i, d⟩ G ⟨hG, hi, hdd⟩
     simp only at hG hi hdd
     subst hG
     simp -dsimp only [go_sem, gS]
     refine gif_split (fun q3 => ?_) (fun q3 => ?_)
     ·have q3' : i < its.length := by have := of_decide_eq_true q3; omega
      obtain ⟨u, hu⟩ := list_at q3'
      have hum := List.mem_of_getElem? hu
      have hd2 : its.drop i = u :: its.drop (i + 1) := by rw [List.drop_eq_getElem_cons q3']; rw [List.getElem?_eq_getElem q3'] at hu; cases hu; rfl
      rw [hd2, Tm.cnts] at hdd
      have hwi := wrapN (k := i) (by have := hya.1; omega)
      have hc2 : u.cnt ≤ 1099511627774 := by omega
      have hwa := wrapAdd (a := d) (b := u.cnt) (by omega)
      have ihu := fun H K h => ofTerm_ok (eb := eb) _ u (Nat.le_refl _) (Tm.smalls_at hya.2 u hum) hc2 H K h
      generalize u.cnt = uc at hdd hwa ihu hc2
      obtain ⟨uk, un, ui, uts⟩ := u
      simp -dsimp only [go_sem, gS, q3, hu, f2, f4, f7, f8, List.getElem?_map, Option.map_some, Tm.d, Tm.cs]
      refine newK_hp (fun b14 f14 => ?_)
      simp only [off_cons, off_nil] at f14
      simp -dsimp only [go_sem, gS, f2, f4, f7, f8, f14]
      refine ihu _ _ ?_
      simp -dsimp only [go_sem, gS, f2, f4, f7, f8, f14, hwa, hwi]
      exact roundQ_next (i + 1, d + uc) _ ⟨rfl, q3', by simp only; omega⟩ (by simp only; omega) (by simp -dsimp only [go_sem, gS]) (leH_hp (by simp only [hpS, eq_self, implies_true, f2, f4, f7, f8, f14]) (by simp only [hpS, eq_self, implies_true, f2, f4, f7, f8, f14]))
     ·rw [List.drop_eq_nil_of_le (by have := of_decide_eq_false q3; omega), Tm.cnts] at hdd
      simp -dsimp only [go_sem, gS, q3, hwjj]
      exact roundQ_next (jj + 1, d) _ ⟨rfl, q2', by simp only; omega⟩ (by simp only; omega) (by simp -dsimp only [go_sem, gS]) (.refl _)
    ·rw [List.drop_eq_nil_of_le (by have := of_decide_eq_false q2; omega)] at hcc
     obtain rfl : cc = total := by simpa [atIts, sumCnt] using hcc
     simp -dsimp only [go_sem, gS, q2, f2, f4, f7, f8]
     refine hof5 _ _ ?_
     simp -dsimp only [go_sem, gS, f2, f4, f7, f8, decide_true]
     refine andK_split (by omega) ?_
     simp -dsimp only [go_sem, gS, f2, f4, f7, f8, Int.toNat_natCast]
     refine newV_hp (fun b85 v85 f85 w85 => ?_)
     simp only [off_cons, off_nil] at f85
     simp -dsimp only [go_sem, gS, f2, f4, f7, f8, f85]
     refine newK_hp (fun b15 f15 => ?_)
     simp only [off_cons, off_nil] at f15
     simp -dsimp only [go_sem, gS, f2, f4, f7, f8, f85, f15]
     refine newV_hp (fun b88 v88 f88 w88 => ?_)
     simp only [off_cons, off_nil] at f88
     simp -dsimp only [go_sem, gS, f2, f4, f7, f8, f85, f15, f88]
     have hcl1 := hct2.len
     have hco := hct2.own
     generalize hcls : clsOf pcs.length (Fl.mk bk bx by' bi ⟨bcn, bca⟩ ⟨bpn, bpa⟩ bxs bgs) = cls at hcl1 hco
     simp only [clsOf] at hcls
     have hclen : cls.length ≤ 519 := by
      by_cases h : 0 < pcs.length
      ·have := hcl1 h; omega
      ·rw [if_neg (by omega)] at hcls; rw [← hcls]; simp
     refine (fun (key : (?T : Prop)) => ?main) ?rest
     case main =>
      refine gif_split (fun q4 => ?_) (fun q4 => ?_)
      ·have e4 : 1 < pcs.length := by have h : (1 : Int) < pcs.length := of_decide_eq_true q4; exact Int.ofNat_lt.1 h
       have q5 : decide ((0 : Int) < pcs.length) = true := decide_eq_true (Int.ofNat_lt.2 (Nat.lt_trans Nat.zero_lt_one e4))
       rw [if_pos e4] at hcls
       have q6 : decide ((bgs.length : Int) = (pcs.length : Int)) = true := decide_eq_true (by rw [hcls, hcl1 (Nat.lt_trans Nat.zero_lt_one e4)])
       simp -dsimp only [go_sem, gS, q4, q5, q6, f2, f4, f7, f8, f85, f15, f88, Fl.ds_map]
       refine svc_loop (X := Nat × List Int) (fun u => [(2, .ref b2 0), (3, .d (.slice (l.map It.d))), (4, .ref b4 0), (7, .ref b7 0), (8, .ref b8 0), (15, .ref b15 0), (31, .d (.slice (ps.map Pr.d))), (32, .d (.int .i64 ps.length)), (33, .d (.int .i64 j)), (108, .d (.slice (cls.map Fl.d))), (109, .d (.int .i64 cls.length)), (110, .d (.int .i64 u.1))])
        (fun u G => G = Aug.hp H [(b2, .var [.d (.bool false)]), (b4, .var [.d (.slice (xts.map It.d)), .d (.slice (xcs.map Cr.d)), .d (.slice (ps.map Pr.d))]), (b7, .var [.d (.str pkn), .d (.int .i64 pka), .d (.slice (pts.map Ty.d)), .d (.slice (pms.map Md.d)), .d (.slice (pcs.map (.int .i64)))]), (b8, .var [.d (.str pkn), .d (.int .i64 pka), .d (.int .i64 (bn : Int)), .d (.int .i64 bk), .d (.int .i64 bx), .d (.int .i64 by'), .d (.int .i64 bi), .d (.str bcn), .d (.int .i64 bca), .d (.str bpn), .d (.int .i64 bpa), .d (.slice (bxs.map (.int .i64))), .d (.slice (Fl.ds bgs))]), (b15, .var [.own b85 v85]), (b85, .arr 3 1 v85 (u.2.map (.int .i64)))] ∧ u.1 ≤ cls.length ∧ u.2.length = bn ∧ ∀ v w, u.2[v]? = some w → pka.toNat ≤ v → w = 0 ∨ v < nstart (atIts l pcs) pka.toNat u.1) (fun u => cls.length - u.1) (0, List.replicate bn 0) _ ⟨rfl, Nat.zero_le _, List.length_replicate, fun v w h _ => .inl (by rw [List.getElem?_replicate] at h; split at h; exact (Option.some.inj h).symm; cases h)⟩ (by simp -dsimp only [go_sem, gS, ← hcls, Fl.ds_map, Fl.d, Fl.cs]) (leH_hp (by simp only [hpS, eq_self, implies_true, f2, f4, f7, f8, f85, f15, f88, Fl.ds_map, List.map_replicate]) (by simp only [hpS, eq_self, implies_true, f2, f4, f7, f8, f85, f15, f88, Fl.ds_map, List.map_replicate])) ?_
       exact key
      ·have e4 : ¬ 1 < pcs.length := fun h => of_decide_eq_false q4 (Int.ofNat_lt.2 h)
       rw [if_neg e4] at hcls
       by_cases e5 : 0 < pcs.length
       ·have q5 : decide ((0 : Int) < pcs.length) = true := decide_eq_true (Int.ofNat_lt.2 e5)
        have q6 : decide (((1 : Nat) : Int) = (pcs.length : Int)) = true := decide_eq_true (by rw [show pcs.length = 1 from Nat.le_antisymm (Nat.not_lt.1 e4) e5])
        simp -dsimp only [go_sem, gS, q4, q5, q6, f2, f4, f7, f8, f85, f15, f88, Fl.ds_map]
        refine svc_deep 108 (by decide) ?_
        simp -dsimp only [go_sem, gS, f2, f4, f7, f8, f85, f15, f88]
        refine svc_loop (X := Nat × List Int) (fun u => [(2, .ref b2 0), (3, .d (.slice (l.map It.d))), (4, .ref b4 0), (7, .ref b7 0), (8, .ref b8 0), (15, .ref b15 0), (31, .d (.slice (ps.map Pr.d))), (32, .d (.int .i64 ps.length)), (33, .d (.int .i64 j)), (108, .d (.slice (cls.map Fl.d))), (109, .d (.int .i64 cls.length)), (110, .d (.int .i64 u.1))])
         (fun u G => G = Aug.hp H [(b2, .var [.d (.bool false)]), (b4, .var [.d (.slice (xts.map It.d)), .d (.slice (xcs.map Cr.d)), .d (.slice (ps.map Pr.d))]), (b7, .var [.d (.str pkn), .d (.int .i64 pka), .d (.slice (pts.map Ty.d)), .d (.slice (pms.map Md.d)), .d (.slice (pcs.map (.int .i64)))]), (b8, .var [.d (.str pkn), .d (.int .i64 pka), .d (.int .i64 (bn : Int)), .d (.int .i64 bk), .d (.int .i64 bx), .d (.int .i64 by'), .d (.int .i64 bi), .d (.str bcn), .d (.int .i64 bca), .d (.str bpn), .d (.int .i64 bpa), .d (.slice (bxs.map (.int .i64))), .d (.slice (Fl.ds bgs))]), (b15, .var [.own b85 v85]), (b85, .arr 3 1 v85 (u.2.map (.int .i64)))] ∧ u.1 ≤ cls.length ∧ u.2.length = bn ∧ ∀ v w, u.2[v]? = some w → pka.toNat ≤ v → w = 0 ∨ v < nstart (atIts l pcs) pka.toNat u.1) (fun u => cls.length - u.1) (0, List.replicate bn 0) _ ⟨rfl, Nat.zero_le _, List.length_replicate, fun v w h _ => .inl (by rw [List.getElem?_replicate] at h; split at h; exact (Option.some.inj h).symm; cases h)⟩ (by simp -dsimp only [go_sem, gS, ← hcls, Fl.ds_map, Fl.d, Fl.cs]) (leH_hp (by simp only [hpS, eq_self, implies_true, f2, f4, f7, f8, f85, f15, f88, Fl.ds_map, List.map_replicate]) (by simp only [hpS, eq_self, implies_true, f2, f4, f7, f8, f85, f15, f88, Fl.ds_map, List.map_replicate])) ?_
        exact key
       ·have q5 : decide ((0 : Int) < pcs.length) = false := decide_eq_false (fun h => e5 (Int.ofNat_lt.1 h))
        simp -dsimp only [go_sem, gS, q4, q5, f2, f4, f7, f8, f85, f15, f88, Fl.ds_map]
        refine svc_deep 108 (by decide) ?_
        simp -dsimp only [go_sem, gS, f2, f4, f7, f8, f85, f15, f88]
        refine svc_loop (X := Nat × List Int) (fun u => [(2, .ref b2 0), (3, .d (.slice (l.map It.d))), (4, .ref b4 0), (7, .ref b7 0), (8, .ref b8 0), (15, .ref b15 0), (31, .d (.slice (ps.map Pr.d))), (32, .d (.int .i64 ps.length)), (33, .d (.int .i64 j)), (108, .d (.slice (cls.map Fl.d))), (109, .d (.int .i64 cls.length)), (110, .d (.int .i64 u.1))])
         (fun u G => G = Aug.hp H [(b2, .var [.d (.bool false)]), (b4, .var [.d (.slice (xts.map It.d)), .d (.slice (xcs.map Cr.d)), .d (.slice (ps.map Pr.d))]), (b7, .var [.d (.str pkn), .d (.int .i64 pka), .d (.slice (pts.map Ty.d)), .d (.slice (pms.map Md.d)), .d (.slice (pcs.map (.int .i64)))]), (b8, .var [.d (.str pkn), .d (.int .i64 pka), .d (.int .i64 (bn : Int)), .d (.int .i64 bk), .d (.int .i64 bx), .d (.int .i64 by'), .d (.int .i64 bi), .d (.str bcn), .d (.int .i64 bca), .d (.str bpn), .d (.int .i64 bpa), .d (.slice (bxs.map (.int .i64))), .d (.slice (Fl.ds bgs))]), (b15, .var [.own b85 v85]), (b85, .arr 3 1 v85 (u.2.map (.int .i64)))] ∧ u.1 ≤ cls.length ∧ u.2.length = bn ∧ ∀ v w, u.2[v]? = some w → pka.toNat ≤ v → w = 0 ∨ v < nstart (atIts l pcs) pka.toNat u.1) (fun u => cls.length - u.1) (0, List.replicate bn 0) _ ⟨rfl, Nat.zero_le _, List.length_replicate, fun v w h _ => .inl (by rw [List.getElem?_replicate] at h; split at h; exact (Option.some.inj h).symm; cases h)⟩ (by simp -dsimp only [go_sem, gS, ← hcls, Fl.ds_map, Fl.d, Fl.cs]) (leH_hp (by simp only [hpS, eq_self, implies_true, f2, f4, f7, f8, f85, f15, f88, Fl.ds_map, List.map_replicate]) (by simp only [hpS, eq_self, implies_true, f2, f4, f7, f8, f85, f15, f88, Fl.ds_map, List.map_replicate])) ?_
        exact key
     case rest =>
      clear hcls
      rintro ⟨i, ow⟩ G ⟨hG, hi, how, hinv⟩
      simp only at hG hi how hinv
      subst hG
      simp -dsimp only [go_sem, gS]
      refine gif_split (fun q6 => ?_) (fun q6 => ?_)
      ·have q6' : i < cls.length := by have := of_decide_eq_true q6; omega
       obtain ⟨c, hc⟩ := list_at q6'
       have hcok := hco i c hc
       have hst := nstart_le (atIts l pcs) pka.toNat i
       have hlast := hct2.last (i + 1)
       have hnv := hct2.nv
       have hcn : c.okG (numIn bn) := hcok.mono fun v ⟨k, e, h⟩ => ⟨k, e, by omega⟩
       have hall := fVars_all c [] hcok (fun v h => by cases h)
       have hvs := fun H K h => vars_ok (eb := eb) (n := bn) (by omega) c hcn H K h
       have hnums := (Nums.nil bn).vars hcn
       generalize fVars c [] = vs at hall hvs hnums
       have hvl := hnums.len
       have hwi := wrapN (k := i) (by omega)
       obtain ⟨ck, cx, cy, ci, ⟨ccn, cca⟩, ⟨cpn, cpa⟩, cxs, cgs⟩ := c
       simp -dsimp only [go_sem, gS, q6, hc, f2, f4, f7, f8, f85, f15, List.getElem?_map, Option.map_some, Fl.d, Fl.cs]
       refine newK_hp (fun b17 f17 => ?_)
       simp only [off_cons, off_nil] at f17
       simp -dsimp only [go_sem, gS, f2, f4, f7, f8, f85, f15, f17]
       refine newK_hp (fun b18 f18 => ?_)
       simp only [off_cons, off_nil] at f18
       simp -dsimp only [go_sem, gS, f2, f4, f7, f8, f85, f15, f17, f18]
       refine hvs _ _ ?_
       simp -dsimp only [go_sem, gS, f2, f4, f7, f8, f85, f15, f17, f18]
       refine svc_range [(116, seqV vs), (2, .ref b2 0), (3, .d (.slice (l.map It.d))), (4, .ref b4 0), (7, .ref b7 0), (8, .ref b8 0), (15, .ref b15 0), (17, .ref b17 0), (31, .d (.slice (ps.map Pr.d))), (32, .d (.int .i64 ps.length)), (33, .d (.int .i64 j)), (108, .d (.slice (cls.map Fl.d))), (109, .d (.int .i64 cls.length)), (110, .d (.int .i64 i))]
        (fun _ G => ∃ ow2 : List Int, ow2.length = bn ∧ (∀ v w, ow2[v]? = some w → pka.toNat ≤ v → w = 0 ∨ v < nstart (atIts l pcs) pka.toNat i ∨ (w = ((i + 1 : Nat) : Int) ∧ v < nstart (atIts l pcs) pka.toNat (i + 1))) ∧ G = Aug.hp H [(b2, .var [.d (.bool false)]), (b4, .var [.d (.slice (xts.map It.d)), .d (.slice (xcs.map Cr.d)), .d (.slice (ps.map Pr.d))]), (b7, .var [.d (.str pkn), .d (.int .i64 pka), .d (.slice (pts.map Ty.d)), .d (.slice (pms.map Md.d)), .d (.slice (pcs.map (.int .i64)))]), (b8, .var [.d (.str pkn), .d (.int .i64 pka), .d (.int .i64 (bn : Int)), .d (.int .i64 bk), .d (.int .i64 bx), .d (.int .i64 by'), .d (.int .i64 bi), .d (.str bcn), .d (.int .i64 bca), .d (.str bpn), .d (.int .i64 bpa), .d (.slice (bxs.map (.int .i64))), .d (.slice (Fl.ds bgs))]), (b15, .var [.own b85 v85]), (b85, .arr 3 1 v85 (ow2.map (.int .i64))), (b17, .var [.d (.int .i64 i)]), (b18, .var [.d (.int .i64 ck), .d (.int .i64 cx), .d (.int .i64 cy), .d (.int .i64 ci), .d (.str ccn), .d (.int .i64 cca), .d (.str cpn), .d (.int .i64 cpa), .d (.slice (cxs.map (.int .i64))), .d (.slice (Fl.ds cgs))])])
        (fun _ _ => False) _ (by simp -dsimp only [go_sem, gS]) callV2 (iterV_ok vs (by omega)) (fun z hz => by obtain ⟨v, _, rfl⟩ := List.mem_map.1 hz; rfl) ⟨ow, how, fun v w h1 h2 => (hinv v w h1 h2).imp id .inl, rfl⟩ (by simp -dsimp only [go_sem, gS]) (.refl _) ?_ ?_ (fun _ _ _ h => h.elim)
       ·rintro r z G hz ⟨ow2, hl2, hi2, rfl⟩
        rw [List.getElem?_map, Option.map_eq_some_iff] at hz
        obtain ⟨v, hv, rfl⟩ := hz
        have hvm := List.mem_of_getElem? hv
        obtain ⟨k, rfl, hk⟩ := hall v hvm
        have hkb : k < bn := by obtain ⟨k', e, h⟩ := hnums.mem _ hvm; omega
        obtain ⟨w, hw2⟩ := list_at (show k < ow2.length by omega)
        have p1 : decide ((k : Int) < 0) = false := by simp
        have p2 : decide ((k : Int) ≥ (bn : Int)) = false := by simp; omega
        have hset : ∀ v w, (ow2.set k ((i + 1 : Nat) : Int))[v]? = some w → pka.toNat ≤ v → w = 0 ∨ v < nstart (atIts l pcs) pka.toNat i ∨ (w = ((i + 1 : Nat) : Int) ∧ v < nstart (atIts l pcs) pka.toNat (i + 1)) := fun v w h1 h2 => by
         rw [List.getElem?_set] at h1
         split at h1
         ·rename_i e
          subst e
          split at h1
          ·exact .inr (.inr ⟨(Option.some.inj h1).symm, by omega⟩)
          ·cases h1
         ·exact hi2 v w h1 h2
        by_cases hka : pka ≤ (k : Int)
        ·have p3 : decide ((k : Int) ≥ pka) = true := by simpa using hka
         by_cases hw0 : w = 0
         ·have p4 : decide (w = 0) = true := decide_eq_true hw0
          simp -dsimp only [go_sem, gS, f2, f4, f7, f8, f85, f15, f17, f18, p1, p2, p3, p4, hw2, hl2, hkb, hwi, List.getElem?_map, Option.map_some, List.length_map]
          exact rngK_next _ ⟨ow2.set k ((i + 1 : Nat) : Int), by simp [hl2], hset, by rw [List.map_set]⟩ (.refl _)
         ·have p4 : decide (w = 0) = false := decide_eq_false hw0
          have hwi1 : w = ((i + 1 : Nat) : Int) := by
           rcases hi2 k w hw2 (by omega) with h | h | h
           ·exact absurd h hw0
           ·omega
           ·exact h.1
          have p5 : decide (w = ((i + 1 : Nat) : Int)) = true := decide_eq_true hwi1
          simp -dsimp only [go_sem, gS, f2, f4, f7, f8, f85, f15, f17, f18, p1, p2, p3, p4, p5, hw2, hl2, hkb, hwi, List.getElem?_map, Option.map_some, List.length_map]
          exact rngK_next _ ⟨ow2.set k ((i + 1 : Nat) : Int), by simp [hl2], hset, by rw [List.map_set]⟩ (.refl _)
        ·have p3 : decide ((k : Int) ≥ pka) = false := by simpa using hka
         simp -dsimp only [go_sem, gS, f2, f4, f7, f8, f85, f15, f17, f18, p1, p2, p3, hw2, hl2, hkb, hwi, List.getElem?_map, Option.map_some, List.length_map]
         exact rngK_next _ ⟨ow2.set k ((i + 1 : Nat) : Int), by simp [hl2], hset, by rw [List.map_set]⟩ (.refl _)
       ·rintro G ⟨ow2, hl2, hi2, rfl⟩
        simp -dsimp only [go_sem, gS, f2, f4, f7, f8, f85, f15, f17, f18, hwi]
        refine roundQ_next (i + 1, ow2) _ ⟨rfl, q6', hl2, fun v w h1 h2 => ?_⟩ (by simp only; omega) (by simp -dsimp only [go_sem, gS]) (leH_hp (by simp only [hpS, eq_self, implies_true, f2, f4, f7, f8, f85, f15, f17, f18]) (by simp only [hpS, eq_self, implies_true, f2, f4, f7, f8, f85, f15, f17, f18]))
        rcases hi2 v w h1 h2 with h | h | h
        ·exact .inl h
        ·exact .inr (Nat.lt_of_lt_of_le h hst.2.1)
        ·exact .inr h.2
      ·simp -dsimp only [go_sem, gS, q6, hw]
       refine roundQ_next (j + 1) _ ⟨rfl, q1'⟩ (by omega) (by simp -dsimp only [go_sem, gS]) (leH_hp (by simp only [hpS, eq_self, implies_true, f2, f4, f7, f8, f85, f15]) (by simp only [hpS, eq_self, implies_true, f2, f4, f7, f8, f85, f15]))
   ·have hz : errD e = .sent e := errD_ne h0
    obtain ⟨bk, bx, by', bi, ⟨bcn, bca⟩, ⟨bpn, bpa⟩, bxs, bgs⟩ := body
    simp -dsimp only [go_sem, gS, f2, f4, f7, FP.d, FP.cs, Fl.cs, List.cons_append, List.nil_append, hz]
    refine newK_hp (fun b8 f8 => ?_)
    simp only [off_cons, off_nil] at f8
    simp -dsimp only [go_sem, gS, f2, f4, f7, f8, hw]
    refine roundQ_next (j + 1) _ ⟨rfl, q1'⟩ (by omega) (by simp -dsimp only [go_sem, gS]) (leH_hp (by simp only [hpS, eq_self, implies_true, f2, f4, f7, f8]) (by simp only [hpS, eq_self, implies_true, f2, f4, f7, f8]))
  ·simp -dsimp only [go_sem, gS, q1, f2, f4]
   exact retW_drop (G := H) (leH_hp0 (by simp only [hpS, eq_self, implies_true, f2, f4])) (retW_is hK)
end Go.Aug
