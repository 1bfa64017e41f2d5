/- The contracts of the printers; conditions stand in each contract. -/
import Derived.Test.YthldjffimcngaaaGreatDoorPrinterTwo
import Derived.Test.YthldjffimcngaaaGreatDoorAnswerOne
import Derived.Test.YthldjffimcngaaaGreatDoorLikesOne
import Derived.Test.YthldjffimcngaaaGreatDoorFormsOne
set_option linter.all false
set_option linter.unusedVariables false
set_option linter.unusedSimpArgs false
set_option linter.unusedSectionVars false

/- The reference's Source; PrintItems. -/
namespace Go.Aug
open Go.Proofs
set_option maxRecDepth 100000
set_option linter.unusedSimpArgs false
attribute [local irreducible] hid andK letA onSome onVar onArr arrOnly onInt onBool onTup idxA ldV ldD addO ofPart appTo fillL slA srcK nilQ retW gif sgd sguard svc sops sdops sagain aopO aLoad aStore aBin aUn aConv aLen aIndexAddr aIndex aIndexAddrS aIndexS aSlice aAppend aBuild aBuildSlice aMakeSlice aField aFieldOf aCallOp deepK deepL frzM putE newK newV growV ACall roundQ thenQ inBlockQ sret cnd szs nilC aLookup aMapUpdate aMakeMap
attribute [local go_sem] Int.natCast_zero
variable {eb : EbG}
end Go.Aug

/- PrintParts: terms, goals and types, printed, are read as they were (printed by PvV.py). -/
namespace Go.Aug
open Go.Proofs
set_option maxRecDepth 100000
set_option linter.unusedSimpArgs false
attribute [local irreducible] hid andK letA onSome onVar onArr arrOnly onInt onBool onTup idxA ldV ldD addO ofPart appTo fillL slA srcK nilQ retW gif sgd sguard svc sops sdops sagain aopO aLoad aStore aBin aUn aConv aLen aIndexAddr aIndex aIndexAddrS aIndexS aSlice aAppend aBuild aBuildSlice aMakeSlice aField aFieldOf aCallOp deepK deepL frzM putE newK newV growV ACall roundQ thenQ inBlockQ sret cnd szs nilC aLookup aMapUpdate aMakeMap
attribute [local go_sem] Int.natCast_zero
variable {eb : EbG}
def rpY (s : ByteArray) : Ty × Int := rone (fun l => rtype 66 l 1) (.mk false ⟨#[]⟩ []) s
theorem parseY_ok [Envs eb] (H : Heap) (s : ByteArray) (K : A → Heap → Prop) (hK : K (.tup [.d (rpY s).1.d, .d (errD (rpY s).2)]) H) : ACall Tryz.prog (seatV eb) 24 [.d (.str s)] H K := by
 refine ACall.hp_start ?_
 refine ACall.by mixed fn24 (by simp) ?_
 conv in s24 => cbv
 refine svc_start ?_
 simp -dsimp only [go_sem, gS]
 refine newK_hp (fun b2 f2 => ?_)
 simp only [off_cons, off_nil] at f2
 simp -dsimp only [go_sem, gS, f2]
 refine wholeTy_ok lexP_ok s _ _ ?_
 rw [rone_is (fun l => rtype 66 l 1) Ty.d, show rone (fun l => rtype 66 l 1) (.mk false ⟨#[]⟩ []) s = rpY s from rfl]
 generalize (rpY s).1 = t at hK ⊢
 have hcs := t.cs_length
 simp -dsimp only [go_sem, gS, f2, hcs, Ty.d]
 refine retW_drop (leH_hp0 (by simp only [hpS, eq_self, implies_true, f2])) (retW_is hK)
theorem zT : rpT = fun s => oneT (fun l => rterm 66 l 1) (.mk 0 ⟨#[]⟩ 0 []) (rlex s).1 (rlex s).2 := rfl
theorem zG : rpG = fun s => oneT (fun l => rgoal 66 l 1) (.mk 0 .none .none ⟨#[]⟩ [] []) (rlex s).1 (rlex s).2 := rfl
theorem zY : rpY = fun s => oneT (fun l => rtype 66 l 1) (.mk false ⟨#[]⟩ []) (rlex s).1 (rlex s).2 := rfl
theorem errD_n {e : Int} (h : e ≠ 0) : errD e = .sent (errG e) := if_neg h
theorem Tm.opn4 (t : Tm) : ∃ y1 y2 y3 y4, t.d = .agg [y1, y2, y3, y4] := by obtain ⟨k, n, i, xs⟩ := t; exact ⟨_, _, _, _, rfl⟩
theorem Ty.opn3 (t : Ty) : ∃ y1 y2 y3, t.d = .agg [y1, y2, y3] := by obtain ⟨k, n, xs⟩ := t; exact ⟨_, _, _, rfl⟩
theorem Gl.opn12 (g : Gl) : ∃ y1 y2 y3 y4 y5 y6 y7 y8 y9 y10 y11 y12, g.d = .agg [y1, y2, y3, y4, y5, y6, y7, y8, y9, y10, y11, y12] := by
 obtain ⟨x1, x2, x3, x4, x5, x6, x7, x8, x9, x10, x11, x12, hg⟩ := g.opn
 exact ⟨_, _, _, _, _, _, _, _, _, _, _, _, by rw [Gl.d, hg]⟩
set_option maxHeartbeats 8000000 in
theorem printParts_ok [Envs eb] (s : ByteArray) (H : Heap) (K : A → Heap → Prop) (hK : K (.d (.bool true)) H) : ACall Tryz.prog (seatV eb) 7 [.d (.str s)] H K := by
 have e0 : errD 0 = .raw .nilIface := rfl
 have e4 : errD 4 = .sent 0 := rfl
 have gn1 : (seatV eb).G 0 = some (.sent 0) := seatV_on inferInstance
 have hsmT : ∀ t, rpT s = (t, 0) → t.small := fun t h => by
  have : (rpT s).1.small := by
   unfold rpT rone
   split
   ·exact Tm.small_leaf _ _ _
   ·exact rterm_small 66 1 _
  rw [h] at this; exact this
 have hsmG : ∀ t, rpG s = (t, 0) → t.small := fun t h => by
  have : (rpG s).1.small := by
   unfold rpG rone
   split
   ·exact Gl.small_none 0
   ·exact rgoalW_small (rlex_len s) (fun x => rprim_small (rlex_len s) 66 1 x) _
  rw [h] at this; exact this
 have hsmY : ∀ t, rpY s = (t, 0) → t.small := fun t h => by
  have : (rpY s).1.small := by
   unfold rpY rone
   split
   ·exact Ty.small_leaf _ _
   ·exact rtype_small 66 1 _
  rw [h] at this; exact this
 refine ACall.hp_start ?_
 refine ACall.by mixed fn7 (by simp) ?_
 conv in s7 => cbv
 refine svc_start ?_
 simp -dsimp only [go_sem, gS]
 refine alive03_ok _ _ ?_
 simp -dsimp only [go_sem, gS]
 refine parseT_ok _ _ _ ?_
 refine (fun (key : (?TT : Prop)) => ?mainT) ?restT
 case mainT =>
  obtain ⟨x, hx⟩ : ∃ x, x = rpT s := ⟨_, rfl⟩
  rw [← hx]
  obtain ⟨t, e⟩ := x
  obtain ⟨y1, y2, y3, y4, hd⟩ := Tm.opn4 t
  by_cases he : e = 0
  ·subst he
   rw [e0]
   obtain ⟨hg, hz⟩ := term_good (by rw [← congrFun zT s]; exact hx.symm)
   have hpr := fun H K => printTm_ok (eb := eb) (H := H) (K := K) t hg hz
   have hb := term_back hg (.mk 0 ⟨#[]⟩ 0 [])
   have hb : rpT (bytesB t.t) = _ := hb
   have hself := fun H => sameTerm_self (eb := eb) _ t (Nat.le_refl _) (by have := hsmT t hx.symm; exact this) H
   rw [hd] at hpr hself
   simp -dsimp only [go_sem, gS, hd]
   refine newK_hp (fun b3 f3 => ?_)
   simp only [off_cons, off_nil] at f3
   simp -dsimp only [go_sem, gS, f3]
   repeat
    refine andK_split rfl ?_
    simp -dsimp only [go_sem, gS, f3]
   refine hpr _ _ ?_
   simp -dsimp only [go_sem, gS, f3]
   refine parseT_ok _ _ _ ?_
   rw [hb]
   by_cases hs : t.t.length ≤ 16384
   ·rw [if_pos hs]
    simp only [e0, hd]
    simp -dsimp only [go_sem, gS, f3]
    refine newK_hp (fun b5 f5 => ?_)
    simp only [off_cons, off_nil] at f5
    simp -dsimp only [go_sem, gS, f3, f5, gn1]
    repeat
     refine andK_split rfl ?_
     simp -dsimp only [go_sem, gS, f3, f5, gn1]
    refine hself _ _ ?_
    simp -dsimp only [go_sem, gS, f3, f5, gn1]
    refine ACall.le (G := hp H []) ?_ (leH_hp0 (by simp only [hpS, eq_self, implies_true, f3, f5]))
    exact key
   ·rw [if_neg hs]
    simp only [e4]
    obtain ⟨u1, u2, u3, u4, hu⟩ := Tm.opn4 (Tm.mk 0 ⟨#[]⟩ 0 [])
    simp only [hu]
    simp -dsimp only [go_sem, gS, f3]
    refine newK_hp (fun b5 f5 => ?_)
    simp only [off_cons, off_nil] at f5
    simp -dsimp only [go_sem, gS, f3, f5, gn1, decide_true]
    repeat
     refine andK_split rfl ?_
     simp -dsimp only [go_sem, gS, f3, f5, gn1, decide_true]
    refine ACall.le (G := hp H []) ?_ (leH_hp0 (by simp only [hpS, eq_self, implies_true, f3, f5]))
    exact key
  ·rw [errD_n he]
   simp -dsimp only [go_sem, gS, hd]
   refine newK_hp (fun b3 f3 => ?_)
   simp only [off_cons, off_nil] at f3
   simp -dsimp only [go_sem, gS, f3]
   repeat
    refine andK_split rfl ?_
    simp -dsimp only [go_sem, gS, f3]
   refine ACall.le (G := hp H []) ?_ (leH_hp0 (by simp only [hpS, eq_self, implies_true, f3]))
   exact key
 case restT =>
  refine parseG_ok _ _ _ ?_
  refine (fun (key : (?TG : Prop)) => ?mainG) ?restG
  case mainG =>
   obtain ⟨x, hx⟩ : ∃ x, x = rpG s := ⟨_, rfl⟩
   rw [← hx]
   obtain ⟨t, e⟩ := x
   obtain ⟨y1, y2, y3, y4, y5, y6, y7, y8, y9, y10, y11, y12, hd⟩ := Gl.opn12 t
   by_cases he : e = 0
   ·subst he
    rw [e0]
    obtain ⟨hg, hz⟩ := goal_good (by rw [← congrFun zG s]; exact hx.symm)
    have hpr := fun H K => printGl_ok (eb := eb) (H := H) (K := K) t hg hz
    have hb := goal_back hg (.mk 0 .none .none ⟨#[]⟩ [] [])
    have hb : rpG (bytesB t.t) = _ := hb
    have hself := fun H => sameGoal_self (eb := eb) _ t (Nat.le_refl _) (by have := hsmG t hx.symm; exact this) H
    rw [hd] at hpr hself
    simp -dsimp only [go_sem, gS, hd]
    refine newK_hp (fun b7 f7 => ?_)
    simp only [off_cons, off_nil] at f7
    simp -dsimp only [go_sem, gS, f7]
    repeat
     refine andK_split rfl ?_
     simp -dsimp only [go_sem, gS, f7]
    refine hpr _ _ ?_
    simp -dsimp only [go_sem, gS, f7]
    refine parseG_ok _ _ _ ?_
    rw [hb]
    by_cases hs : t.t.length ≤ 16384
    ·rw [if_pos hs]
     simp only [e0, hd]
     simp -dsimp only [go_sem, gS, f7]
     refine newK_hp (fun b9 f9 => ?_)
     simp only [off_cons, off_nil] at f9
     simp -dsimp only [go_sem, gS, f7, f9, gn1]
     repeat
      refine andK_split rfl ?_
      simp -dsimp only [go_sem, gS, f7, f9, gn1]
     refine hself _ _ ?_
     simp -dsimp only [go_sem, gS, f7, f9, gn1]
     refine ACall.le (G := hp H []) ?_ (leH_hp0 (by simp only [hpS, eq_self, implies_true, f7, f9]))
     exact key
    ·rw [if_neg hs]
     simp only [e4]
     obtain ⟨u1, u2, u3, u4, u5, u6, u7, u8, u9, u10, u11, u12, hu⟩ := Gl.opn12 (Gl.mk 0 .none .none ⟨#[]⟩ [] [])
     simp only [hu]
     simp -dsimp only [go_sem, gS, f7]
     refine newK_hp (fun b9 f9 => ?_)
     simp only [off_cons, off_nil] at f9
     simp -dsimp only [go_sem, gS, f7, f9, gn1, decide_true]
     repeat
      refine andK_split rfl ?_
      simp -dsimp only [go_sem, gS, f7, f9, gn1, decide_true]
     refine ACall.le (G := hp H []) ?_ (leH_hp0 (by simp only [hpS, eq_self, implies_true, f7, f9]))
     exact key
   ·rw [errD_n he]
    simp -dsimp only [go_sem, gS, hd]
    refine newK_hp (fun b7 f7 => ?_)
    simp only [off_cons, off_nil] at f7
    simp -dsimp only [go_sem, gS, f7]
    repeat
     refine andK_split rfl ?_
     simp -dsimp only [go_sem, gS, f7]
    refine ACall.le (G := hp H []) ?_ (leH_hp0 (by simp only [hpS, eq_self, implies_true, f7]))
    exact key
  case restG =>
   refine parseY_ok _ _ _ ?_
   obtain ⟨x, hx⟩ : ∃ x, x = rpY s := ⟨_, rfl⟩
   rw [← hx]
   obtain ⟨t, e⟩ := x
   obtain ⟨y1, y2, y3, hd⟩ := Ty.opn3 t
   by_cases he : e = 0
   ·subst he
    rw [e0]
    obtain ⟨hg, hz⟩ := type_good (by rw [← congrFun zY s]; exact hx.symm)
    have hpr := fun H K => printTy_ok (eb := eb) (H := H) (K := K) t hz
    have hb := type_back hg (.mk false ⟨#[]⟩ [])
    have hb : rpY (bytesB t.t) = _ := hb
    have hself := fun H => sameType_self (eb := eb) _ t (Nat.le_refl _) (by have := hsmY t hx.symm; exact this) H
    rw [hd] at hpr hself
    simp -dsimp only [go_sem, gS, hd]
    refine newK_hp (fun b11 f11 => ?_)
    simp only [off_cons, off_nil] at f11
    simp -dsimp only [go_sem, gS, f11]
    repeat
     refine andK_split rfl ?_
     simp -dsimp only [go_sem, gS, f11]
    refine hpr _ _ ?_
    simp -dsimp only [go_sem, gS, f11]
    refine parseY_ok _ _ _ ?_
    rw [hb]
    by_cases hs : t.t.length ≤ 16384
    ·rw [if_pos hs]
     simp only [e0, hd]
     simp -dsimp only [go_sem, gS, f11]
     refine newK_hp (fun b13 f13 => ?_)
     simp only [off_cons, off_nil] at f13
     simp -dsimp only [go_sem, gS, f11, f13, gn1]
     repeat
      refine andK_split rfl ?_
      simp -dsimp only [go_sem, gS, f11, f13, gn1]
     refine hself _ _ ?_
     simp -dsimp only [go_sem, gS, f11, f13, gn1]
     exact retW_drop (G := H) (leH_hp0 (by simp only [hpS, eq_self, implies_true, f11, f13])) (retW_is hK)
    ·rw [if_neg hs]
     simp only [e4]
     obtain ⟨u1, u2, u3, hu⟩ := Ty.opn3 (Ty.mk false ⟨#[]⟩ [])
     simp only [hu]
     simp -dsimp only [go_sem, gS, f11]
     refine newK_hp (fun b13 f13 => ?_)
     simp only [off_cons, off_nil] at f13
     simp -dsimp only [go_sem, gS, f11, f13, gn1, decide_true]
     repeat
      refine andK_split rfl ?_
      simp -dsimp only [go_sem, gS, f11, f13, gn1, decide_true]
     exact retW_drop (G := H) (leH_hp0 (by simp only [hpS, eq_self, implies_true, f11, f13])) (retW_is hK)
   ·rw [errD_n he]
    simp -dsimp only [go_sem, gS, hd]
    refine newK_hp (fun b11 f11 => ?_)
    simp only [off_cons, off_nil] at f11
    simp -dsimp only [go_sem, gS, f11]
    repeat
     refine andK_split rfl ?_
     simp -dsimp only [go_sem, gS, f11]
    exact retW_drop (G := H) (leH_hp0 (by simp only [hpS, eq_self, implies_true, f11])) (retW_is hK)
end Go.Aug
