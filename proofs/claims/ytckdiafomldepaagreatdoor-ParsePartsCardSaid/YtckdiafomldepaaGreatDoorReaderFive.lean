/- The facts of the program's functions, and the contracts of its lexer and parser; conditions stand in each contract. -/
import Derived.Test.YtckdiafomldepaaGreatDoorAnswerTwo
import Derived.Test.YtckdiafomldepaaGreatDoorLikesOne
import Derived.Test.YtckdiafomldepaaGreatDoorPiecesOne
set_option linter.all false
set_option linter.unusedVariables false
set_option linter.unusedSimpArgs false
set_option linter.unusedSectionVars false

/- ParseSources, ParseParts: the program reads every text as the reference does. -/
namespace Go.Aug
open Go.Proofs
set_option maxRecDepth 100000
set_option linter.unusedSimpArgs false
attribute [local irreducible] hid andK letA onSome onVar onArr arrOnly onInt onBool onTup idxA ldV ldD addO ofPart appTo fillL slA srcK nilQ retW gif sgd sguard svc sops sdops sagain aopO aLoad aStore aBin aUn aConv aLen aIndexAddr aIndex aIndexAddrS aIndexS aSlice aAppend aBuild aBuildSlice aMakeSlice aField aFieldOf aCallOp deepK deepL frzM putE newK newV growV ACall roundQ thenQ inBlockQ sret cnd szs nilC aLookup aMapUpdate aMakeMap
attribute [local go_sem] Int.natCast_zero
theorem rpT_small (s : ByteArray) : (rpT s).1.small := by
 unfold rpT rone
 split
 ·exact Tm.small_leaf _ _ _
 ·exact rterm_small 66 1 _
theorem rpY_small (s : ByteArray) : (rpY s).1.small := by
 unfold rpY rone
 split
 ·exact Ty.small_leaf _ _
 ·exact rtype_small 66 1 _
theorem rpG_small (s : ByteArray) : (rpG s).1.small := by
 unfold rpG rone
 split
 ·exact Gl.small_none 0
 ·exact rgoalW_small (rlex_len s) (fun x => rprim_small (rlex_len s) 66 1 x) _
theorem rone_told {α : Type} {q : List Tok → RdS → α × RdS} {z : α} (hq : ∀ l, Tells (q l)) (s : ByteArray) : 0 ≤ (rone q z s).2 ∧ (rone q z s).2 ≤ 4 := by
 have := rwhole_told hq s
 unfold rone
 split
 ·exact this
 ·exact ⟨Int.le_refl _, (by decide : (0 : Int) ≤ 4)⟩
set_option maxHeartbeats 4000000 in
theorem parseParts_ok {eb : EbG} [Envs eb] [OnAll eb] (s : ByteArray) (H : Heap) (K : A → Heap → Prop) (hK : K (.d (.bool true)) H) : ACall Tryz.prog (seatV eb) 4 [.d (.str s)] H K := by
 have hps := fun H => parseT_ok (eb := eb) H s
 have hqs := fun H => textTm_ok (eb := eb) H s
 have hsm := rpT_small s
 have hto : 0 ≤ (rpT s).2 ∧ (rpT s).2 ≤ 4 := rone_told (fun l => rterm_told 66 1) s
 generalize rpT s = x at hsm hto hps hqs
 obtain ⟨t, e⟩ := x
 simp only at hsm hto
 have hps1 := fun H => parseG_ok (eb := eb) H s
 have hqs1 := fun H => textGl_ok (eb := eb) H s
 have hsm1 := rpG_small s
 have hto1 : 0 ≤ (rpG s).2 ∧ (rpG s).2 ≤ 4 := rone_told (fun l => rgoal_told 66 1) s
 generalize rpG s = x at hsm1 hto1 hps1 hqs1
 obtain ⟨g, e1⟩ := x
 simp only at hsm1 hto1
 have hps2 := fun H => parseY_ok (eb := eb) H s
 have hqs2 := fun H => textTy_ok (eb := eb) H s
 have hsm2 := rpY_small s
 have hto2 : 0 ≤ (rpY s).2 ∧ (rpY s).2 ≤ 4 := rone_told (fun l => rtype_told 66 1) s
 generalize rpY s = x at hsm2 hto2 hps2 hqs2
 obtain ⟨y, e2⟩ := x
 simp only at hsm2 hto2
 have hself := fun H => sameTerm_self (eb := eb) _ t (Nat.le_refl _) hsm H
 have hself1 := fun H => sameGoal_self (eb := eb) _ g (Nat.le_refl _) hsm1 H
 have hself2 := fun H => sameType_self (eb := eb) _ y (Nat.le_refl _) hsm2 H
 obtain ⟨x1, x2, x3, x4, x5, x6, x7, x8, x9, x10, x11, x12, hg⟩ := g.opn
 have hd1 : g.d = .agg [x1, x2, x3, x4, x5, x6, x7, x8, x9, x10, x11, x12] := by rw [Gl.d, hg]
 have hd : t.d = .agg [.int .i64 t.kind, .str t.name, (match t with | .mk _ _ i _ => .int .i64 i), .slice (Tm.ds t.args)] := by cases t; rfl
 obtain ⟨k, n, i, xs⟩ := t
 obtain ⟨v, w, ys⟩ := y
 simp only [Tm.kind, Tm.name, Tm.args] at hd
 have hd2 : (Ty.mk v w ys).d = .agg [.bool v, .str w, .slice (Ty.ds ys)] := rfl
 rw [hd] at hself
 rw [hd1] at hself1
 rw [hd2] at hself2
 refine ACall.hp_start ?_
 refine ACall.by mixed fn4 (by simp) ?_
 conv in s4 => cbv
 refine svc_start ?_
 simp -dsimp only [go_sem, gS]
 refine alive02_ok _ _ ?_
 simp -dsimp only [go_sem, gS]
 refine hps _ _ ?_
 simp -dsimp only [go_sem, gS, hd]
 refine newK_hp (fun b3 f3 => ?_)
 simp only [off_cons, off_nil] at f3
 simp -dsimp only [go_sem, gS, f3]
 refine hqs _ _ ?_
 simp -dsimp only [go_sem, gS, f3, hd]
 refine newK_hp (fun b5 f5 => ?_)
 simp only [off_cons, off_nil] at f5
 simp -dsimp only [go_sem, gS, f3, f5]
 refine hps1 _ _ ?_
 simp -dsimp only [go_sem, gS, f3, f5, hd1]
 refine newK_hp (fun b7 f7 => ?_)
 simp only [off_cons, off_nil] at f7
 simp -dsimp only [go_sem, gS, f3, f5, f7]
 refine hqs1 _ _ ?_
 simp -dsimp only [go_sem, gS, f3, f5, f7, hd1]
 refine newK_hp (fun b9 f9 => ?_)
 simp only [off_cons, off_nil] at f9
 simp -dsimp only [go_sem, gS, f3, f5, f7, f9]
 refine hps2 _ _ ?_
 simp -dsimp only [go_sem, gS, f3, f5, f7, f9, hd2]
 refine newK_hp (fun b11 f11 => ?_)
 simp only [off_cons, off_nil] at f11
 simp -dsimp only [go_sem, gS, f3, f5, f7, f9, f11]
 refine hqs2 _ _ ?_
 simp -dsimp only [go_sem, gS, f3, f5, f7, f9, f11, hd2]
 refine newK_hp (fun b13 f13 => ?_)
 simp only [off_cons, off_nil] at f13
 simp -dsimp only [go_sem, gS, f3, f5, f7, f9, f11, f13]
 refine hself _ _ ?_
 simp -dsimp only [go_sem, gS, f3, f5, f7, f9, f11, f13]
 refine numD_ok e (le4 hto) _ _ ?_
 simp -dsimp only [go_sem, gS, f3, f5, f7, f9, f11, f13, decide_true]
 refine hself1 _ _ ?_
 simp -dsimp only [go_sem, gS, f3, f5, f7, f9, f11, f13]
 refine numD_ok e1 (le4 hto1) _ _ ?_
 simp -dsimp only [go_sem, gS, f3, f5, f7, f9, f11, f13, decide_true]
 refine hself2 _ _ ?_
 simp -dsimp only [go_sem, gS, f3, f5, f7, f9, f11, f13]
 refine numD_ok e2 (le4 hto2) _ _ ?_
 simp -dsimp only [go_sem, gS, f3, f5, f7, f9, f11, f13, decide_true]
 exact retW_drop (G := H) (leH_hp0 (by simp only [hpS, eq_self, implies_true, f3, f5, f7, f9, f11, f13])) (retW_is hK)
end Go.Aug
