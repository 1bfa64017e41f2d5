/- The contracts of the reference's lexer and parser; conditions stand in each contract. -/
import Derived.Test.YtckdiafomldepaaGreatDoorAnswerOne
import Derived.Test.YtckdiafomldepaaGreatDoorReaderFour
set_option linter.all false
set_option linter.unusedVariables false
set_option linter.unusedSimpArgs false
set_option linter.unusedSectionVars false

/- The reference's terms, goals and types of whole texts; the program's types (printed by ZwP.py). -/
namespace Go.Aug
open Go.Proofs
set_option maxRecDepth 100000
set_option linter.unusedSimpArgs false
attribute [local irreducible] hid andK letA onSome onVar onArr arrOnly onInt onBool onTup idxA ldV ldD addO ofPart appTo fillL slA srcK nilQ retW gif sgd sguard svc sops sdops sagain aopO aLoad aStore aBin aUn aConv aLen aIndexAddr aIndex aIndexAddrS aIndexS aSlice aAppend aBuild aBuildSlice aMakeSlice aField aFieldOf aCallOp deepK deepL frzM putE newK newV growV ACall roundQ thenQ inBlockQ sret cnd szs nilC aLookup aMapUpdate aMakeMap
attribute [local go_sem] Int.natCast_zero
def rpY (s : ByteArray) : Ty × Int := rone (fun l => rtype 66 l 1) (.mk false ⟨#[]⟩ []) s
theorem parseY_ok {eb : EbG} [Envs eb] (H : Heap) (s : ByteArray) (K : A → Heap → Prop) (hK : K (.tup [.d (rpY s).1.d, .d (errD (rpY s).2)]) H) : ACall Tryz.prog (seatV eb) 14 [.d (.str s)] H K := by
 refine ACall.hp_start ?_
 refine ACall.by mixed fn14 (by simp) ?_
 conv in s14 => cbv
 refine svc_start ?_
 simp -dsimp only [go_sem, gS]
 refine newK_hp (fun b2 f2 => ?_)
 simp only [off_cons, off_nil] at f2
 simp -dsimp only [go_sem, gS, f2]
 refine wholeTy_ok lexP_ok s _ _ ?_
 rw [rone_is (fun l => rtype 66 l 1) Ty.d, show rone (fun l => rtype 66 l 1) (.mk false ⟨#[]⟩ []) s = rpY s from rfl]
 generalize (rpY s).1 = t at hK ⊢
 have hcs := t.cs_length
 simp -dsimp only [go_sem, gS, f2, hcs, Ty.d]
 refine retW_drop (leH_hp0 (by simp only [hpS, eq_self, implies_true, f2])) (retW_is hK)
set_option maxHeartbeats 2000000 in
theorem textTm_ok {eb : EbG} (H : Heap) (s : ByteArray) (K : A → Heap → Prop) (hK : K (.tup [.d (rpT s).1.d, .d (.int .i64 (rpT s).2)]) H) : ACall Tryz.prog (seatV eb) 11 [.d (.str s)] H K := by
 have hlen := rlex_len s
 unfold rpT rone at hK
 simp only [ne_eq] at hK
 refine ACall.hp_start ?_
 refine ACall.by mixed fn11 (by simp) ?_
 conv in s11 => cbv
 refine svc_start ?_
 simp -dsimp only [go_sem, gS]
 refine newK_hp (fun b2 f2 => ?_)
 simp only [off_cons, off_nil] at f2
 simp -dsimp only [go_sem, gS, f2]
 refine read_ok _ s _ (fun b4 hb4 => ?_)
 have f4 := off_of hb4
 simp only [off_cons, off_nil] at f4
 generalize (rlex s).1 = l at hlen hK ⊢
 generalize (rlex s).2 = e at hK ⊢
 have hsh : l.length < 1073741824 := by omega
 simp -dsimp only [go_sem, gS, f2, f4]
 refine term_ok 66 _ b4 l ⟨0, e⟩ 1 (by omega) (by omega) ⟨by simp only [hpS, eq_self, implies_true, f2, f4], hsh, Nat.zero_le _⟩ _ ?_
 have hle := (rterm_steps l 66 1).le ⟨0, e⟩ (Nat.zero_le _)
 generalize rterm 66 l 1 ⟨0, e⟩ = x at hK hle ⊢
 obtain ⟨⟨k, n, i, xs⟩, s1⟩ := x
 simp only at hK hle ⊢
 have hd : (Tm.mk k n i xs).d = .agg [.int .i64 k, .str n, .int .i64 i, .slice (Tm.ds xs)] := rfl
 simp -dsimp only [go_sem, gS, f2, f4, hd]
 refine newK_hp (fun b5 f5 => ?_)
 simp only [off_cons, off_nil] at f5
 simp -dsimp only [go_sem, gS, f2, f4, f5]
 refine done_ok _ b4 l s1 ⟨by simp only [hpS, eq_self, implies_true, f2, f4, f5], hsh, hle⟩ _ ?_
 generalize rdone l s1 = s2 at hK ⊢
 simp -dsimp only [go_sem, gS, f2, f4, f5]
 by_cases h : s2.err = 0
 ·rw [if_neg (fun hh => hh h)] at hK
  have d0 : decide (s2.err = 0) = true := decide_eq_true h
  simp -dsimp only [go_sem, gS, f2, f4, f5, d0]
  refine retW_drop (G := H) (leH_hp0 (by simp only [hpS, eq_self, implies_true, f2, f4, f5])) (retW_is ?_)
  simpa only [hd] using hK
 ·rw [if_pos h] at hK
  have d0 : decide (s2.err = 0) = false := decide_eq_false h
  simp -dsimp only [go_sem, gS, f2, f4, f5, d0]
  refine retW_tup [true, true] ?_
  simp -dsimp only [go_sem, gS, f2, f4, f5]
  refine retW_drop (G := H) (leH_hp0 (by simp only [hpS, eq_self, implies_true, f2, f4, f5])) (retW_is ?_)
  simpa only [Tm.d, Tm.cs, Tm.ds] using hK
set_option maxHeartbeats 2000000 in
theorem textTy_ok {eb : EbG} (H : Heap) (s : ByteArray) (K : A → Heap → Prop) (hK : K (.tup [.d (rpY s).1.d, .d (.int .i64 (rpY s).2)]) H) : ACall Tryz.prog (seatV eb) 15 [.d (.str s)] H K := by
 have hlen := rlex_len s
 unfold rpY rone at hK
 simp only [ne_eq] at hK
 refine ACall.hp_start ?_
 refine ACall.by mixed fn15 (by simp) ?_
 conv in s15 => cbv
 refine svc_start ?_
 simp -dsimp only [go_sem, gS]
 refine newK_hp (fun b2 f2 => ?_)
 simp only [off_cons, off_nil] at f2
 simp -dsimp only [go_sem, gS, f2]
 refine read_ok _ s _ (fun b4 hb4 => ?_)
 have f4 := off_of hb4
 simp only [off_cons, off_nil] at f4
 generalize (rlex s).1 = l at hlen hK ⊢
 generalize (rlex s).2 = e at hK ⊢
 have hsh : l.length < 1073741824 := by omega
 simp -dsimp only [go_sem, gS, f2, f4]
 refine type_ok 66 _ b4 l ⟨0, e⟩ 1 (by omega) (by omega) ⟨by simp only [hpS, eq_self, implies_true, f2, f4], hsh, Nat.zero_le _⟩ _ ?_
 have hle := (rtype_steps l 66 1).le ⟨0, e⟩ (Nat.zero_le _)
 generalize rtype 66 l 1 ⟨0, e⟩ = x at hK hle ⊢
 obtain ⟨⟨k, n, xs⟩, s1⟩ := x
 simp only at hK hle ⊢
 have hd : (Ty.mk k n xs).d = .agg [.bool k, .str n, .slice (Ty.ds xs)] := rfl
 simp -dsimp only [go_sem, gS, f2, f4, hd]
 refine newK_hp (fun b5 f5 => ?_)
 simp only [off_cons, off_nil] at f5
 simp -dsimp only [go_sem, gS, f2, f4, f5]
 refine done_ok _ b4 l s1 ⟨by simp only [hpS, eq_self, implies_true, f2, f4, f5], hsh, hle⟩ _ ?_
 generalize rdone l s1 = s2 at hK ⊢
 simp -dsimp only [go_sem, gS, f2, f4, f5]
 by_cases h : s2.err = 0
 ·rw [if_neg (fun hh => hh h)] at hK
  have d0 : decide (s2.err = 0) = true := decide_eq_true h
  simp -dsimp only [go_sem, gS, f2, f4, f5, d0]
  refine retW_drop (G := H) (leH_hp0 (by simp only [hpS, eq_self, implies_true, f2, f4, f5])) (retW_is ?_)
  simpa only [hd] using hK
 ·rw [if_pos h] at hK
  have d0 : decide (s2.err = 0) = false := decide_eq_false h
  simp -dsimp only [go_sem, gS, f2, f4, f5, d0]
  refine retW_tup [true, true] ?_
  simp -dsimp only [go_sem, gS, f2, f4, f5]
  refine retW_drop (G := H) (leH_hp0 (by simp only [hpS, eq_self, implies_true, f2, f4, f5])) (retW_is ?_)
  simpa only [Ty.d, Ty.cs, Ty.ds] using hK
set_option maxHeartbeats 2000000 in
theorem textGl_ok {eb : EbG} (H : Heap) (s : ByteArray) (K : A → Heap → Prop) (hK : K (.tup [.d (rpG s).1.d, .d (.int .i64 (rpG s).2)]) H) : ACall Tryz.prog (seatV eb) 13 [.d (.str s)] H K := by
 have hlen := rlex_len s
 unfold rpG rone at hK
 simp only [ne_eq] at hK
 refine ACall.hp_start ?_
 refine ACall.by mixed fn13 (by simp) ?_
 conv in s13 => cbv
 refine svc_start ?_
 simp -dsimp only [go_sem, gS]
 refine newK_hp (fun b2 f2 => ?_)
 simp only [off_cons, off_nil] at f2
 simp -dsimp only [go_sem, gS, f2]
 refine read_ok _ s _ (fun b4 hb4 => ?_)
 have f4 := off_of hb4
 simp only [off_cons, off_nil] at f4
 generalize (rlex s).1 = l at hlen hK ⊢
 generalize (rlex s).2 = e at hK ⊢
 have hsh : l.length < 1073741824 := by omega
 simp -dsimp only [go_sem, gS, f2, f4]
 refine goal_ok l 1 (rprim 66 l 1) (rprim_steps l 66 1) (fun H r s h K hK => prim_ok l 66 1 (by omega) (by omega) H r s h K hK) _ b4 ⟨0, e⟩ ⟨by simp only [hpS, eq_self, implies_true, f2, f4], hsh, Nat.zero_le _⟩ _ ?_
 rw [show rgoalW (rprim 66 l 1) l = rgoal 66 l 1 from rfl]
 have hle := (rgoal_steps l 66 1).le ⟨0, e⟩ (Nat.zero_le _)
 generalize rgoal 66 l 1 ⟨0, e⟩ = x at hK hle ⊢
 obtain ⟨g, s1⟩ := x
 simp only at hK hle ⊢
 obtain ⟨x1, x2, x3, x4, x5, x6, x7, x8, x9, x10, x11, x12, hg⟩ := g.opn
 have hd : g.d = .agg [x1, x2, x3, x4, x5, x6, x7, x8, x9, x10, x11, x12] := by rw [Gl.d, hg]
 simp -dsimp only [go_sem, gS, f2, f4, hd]
 refine newK_hp (fun b5 f5 => ?_)
 simp only [off_cons, off_nil] at f5
 simp -dsimp only [go_sem, gS, f2, f4, f5]
 refine done_ok _ b4 l s1 ⟨by simp only [hpS, eq_self, implies_true, f2, f4, f5], hsh, hle⟩ _ ?_
 generalize rdone l s1 = s2 at hK ⊢
 simp -dsimp only [go_sem, gS, f2, f4, f5]
 by_cases h : s2.err = 0
 ·rw [if_neg (fun hh => hh h)] at hK
  have d0 : decide (s2.err = 0) = true := decide_eq_true h
  simp -dsimp only [go_sem, gS, f2, f4, f5, d0]
  refine retW_drop (G := H) (leH_hp0 (by simp only [hpS, eq_self, implies_true, f2, f4, f5])) (retW_is ?_)
  simpa only [hd] using hK
 ·rw [if_pos h] at hK
  have d0 : decide (s2.err = 0) = false := decide_eq_false h
  simp -dsimp only [go_sem, gS, f2, f4, f5, d0]
  refine retW_tup [true, true] ?_
  simp -dsimp only [go_sem, gS, f2, f4, f5]
  refine retW_drop (G := H) (leH_hp0 (by simp only [hpS, eq_self, implies_true, f2, f4, f5])) (retW_is ?_)
  simpa only [Gl.d, Gl.cs, Gl.ds, Tm.none, Tm.cs, Tm.ds, List.map_nil, List.cons_append, List.nil_append] using hK
end Go.Aug
