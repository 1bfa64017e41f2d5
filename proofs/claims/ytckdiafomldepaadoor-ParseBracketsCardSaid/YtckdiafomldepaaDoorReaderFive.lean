/- The facts of the program's functions, and the contracts of its lexer and parser; conditions stand in each contract. -/
import Derived.Test.YtckdiafomldepaaDoorPiecesThree
import Derived.Test.YtckdiafomldepaaDoorLikesOne
set_option linter.all false
set_option linter.unusedVariables false
set_option linter.unusedSimpArgs false
set_option linter.unusedSectionVars false

/- ParseRows: two sources, one behind the other, are the items of both. -/
namespace Go.Aug
open Go.Proofs
set_option maxRecDepth 100000
set_option linter.unusedSimpArgs false
attribute [local irreducible] hid andK letA onSome onVar onArr arrOnly onInt onBool onTup idxA ldV ldD addO ofPart appTo fillL slA srcK nilQ retW gif sgd sguard svc sops sdops sagain aopO aLoad aStore aBin aUn aConv aLen aIndexAddr aIndex aIndexAddrS aIndexS aSlice aAppend aBuild aBuildSlice aMakeSlice aField aFieldOf aCallOp deepK deepL frzM putE newK newV growV ACall roundQ thenQ inBlockQ sret cnd szs nilC aLookup aMapUpdate aMakeMap
attribute [local go_sem] Int.natCast_zero
theorem errD_no {e : Int} (h : e ≠ 0) : errD e = .sent (errG e) := if_neg h

theorem rpG_small (s : ByteArray) : (rpG s).1.small := by
 have h : (rpG s).1 = (rgoalT (rlex s).1 (rlex s).2).1 := rfl
 rw [h]
 unfold rgoalT
 split
 ·exact Gl.small_none 0
 ·exact rgoalW_small (rlex_len s) (fun x => rprim_small (rlex_len s) 66 1 x) _
set_option maxHeartbeats 2000000 in
theorem parseBrackets_ok {eb : EbG} [Envs eb] (s : ByteArray) (H : Heap) (K : A → Heap → Prop) (hK : K (.d (.bool true)) H) : ACall Tryd.prog (seatV eb) 5 [.d (.str s)] H K := by
 have hb := fun g (h : rpG s = (g, 0)) => bracket_goal (s := s) (g := g) h
 have hs := rpG_small s
 have hl : (rlex s).2 = 0 → s.size ≤ 16384 := fun h => (rlex_lexed.1 (Prod.ext rfl h : rlex s = ((rlex s).1, 0))).1
 have hn : (rpG s).2 = 0 → (rlex s).2 = 0 := fun h => (rgoalT_ok.1 (Prod.ext rfl h : rgoalT (rlex s).1 (rlex s).2 = ((rpG s).1, 0))).1
 have e0 : errD 0 = .raw .nilIface := rfl
 have d10 : decide (1 = 0) = false := rfl
 have gn0 : (seatV eb).G 0 = some (.sent 0) := seatV_on inferInstance
 have gn1 : (seatV eb).G 1 = some (.sent 1) := seatV_on inferInstance
 refine ACall.hp_start ?_
 refine ACall.by mixed fn5 (by simp) ?_
 conv in s5 => cbv
 refine svc_start ?_
 simp -dsimp only [go_sem, gS]
 refine alive02_ok _ _ ?_
 simp -dsimp only [go_sem, gS]
 refine parseG_ok _ _ _ ?_
 have hz : rpG (⟨#[40]⟩ ++ s ++ ⟨#[10, 41]⟩) = rgoalT (rlex (⟨#[40]⟩ ++ s ++ ⟨#[10, 41]⟩)).1 (rlex (⟨#[40]⟩ ++ s ++ ⟨#[10, 41]⟩)).2 := rfl
 rw [← hz] at hb
 clear hz
 generalize rpG s = x at hb hs hn
 obtain ⟨g, n1⟩ := x
 obtain ⟨x1, x2, x3, x4, x5, x6, x7, x8, x9, x10, x11, x12, hg⟩ := g.opn
 have hd : g.d = .agg [x1, x2, x3, x4, x5, x6, x7, x8, x9, x10, x11, x12] := by rw [Gl.d, hg]
 by_cases h1 : n1 = 0
 ·subst h1
  have hsz := hl (hn rfl)
  have hb := hb g rfl
  simp only at hs
  have hself := fun H K hK => sameGoal_self (eb := eb) _ g (Nat.le_refl _) hs H K hK
  rw [hd] at hself
  simp only [e0, hd]
  simp -dsimp only [go_sem, gS]
  refine newK_hp (fun b3 f3 => ?_)
  simp only [off_cons, off_nil] at f3
  simp -dsimp only [go_sem, gS, f3]
  refine andK_split rfl ?_
  simp -dsimp only [go_sem, gS, f3]
  refine andK_split (by show 1 + _ ≤ _; omega) ?_
  simp -dsimp only [go_sem, gS, f3]
  refine andK_split (by show 1 + _ + 2 ≤ _; omega) ?_
  simp -dsimp only [go_sem, gS, f3]
  refine parseG_ok _ _ _ ?_
  rw [show ByteArray.mk #[40] ++ s ++ ByteArray.mk #[10, 41] = ⟨#[40]⟩ ++ s ++ ⟨#[10, 41]⟩ from rfl]
  generalize rpG (⟨#[40]⟩ ++ s ++ ⟨#[10, 41]⟩) = z at hb
  obtain ⟨g2, n2⟩ := z
  have e3 : errD 3 = .sent 0 := rfl
  have e4 : errD 4 = .sent 1 := rfl
  rcases hb with h | h | h
  ·simp only at h
   subst h
   obtain ⟨y1, y2, y3, y4, y5, y6, y7, y8, y9, y10, y11, y12, hg2⟩ := g2.opn
   have hd2 : g2.d = .agg [y1, y2, y3, y4, y5, y6, y7, y8, y9, y10, y11, y12] := by rw [Gl.d, hg2]
   simp only [e3, hd2]
   simp -dsimp only [go_sem, gS, f3]
   refine newK_hp (fun b5 f5 => ?_)
   simp only [off_cons, off_nil] at f5
   simp -dsimp only [go_sem, gS, f3, f5, gn0, gn1]
   repeat
    refine andK_split rfl ?_
    simp -dsimp only [go_sem, gS, f3, f5, gn0, gn1]
   exact retW_drop (G := H) (leH_hp0 (by simp only [hpS, eq_self, implies_true, f3, f5])) (retW_is hK)
  ·simp only at h
   subst h
   obtain ⟨y1, y2, y3, y4, y5, y6, y7, y8, y9, y10, y11, y12, hg2⟩ := g2.opn
   have hd2 : g2.d = .agg [y1, y2, y3, y4, y5, y6, y7, y8, y9, y10, y11, y12] := by rw [Gl.d, hg2]
   simp only [e4, hd2]
   simp -dsimp only [go_sem, gS, f3]
   refine newK_hp (fun b5 f5 => ?_)
   simp only [off_cons, off_nil] at f5
   simp -dsimp only [go_sem, gS, f3, f5, gn0, gn1, d10]
   repeat
    refine andK_split rfl ?_
    simp -dsimp only [go_sem, gS, f3, f5, gn0, gn1, d10]
   exact retW_drop (G := H) (leH_hp0 (by simp only [hpS, eq_self, implies_true, f3, f5])) (retW_is hK)
  ·obtain ⟨rfl, rfl⟩ := Prod.mk.inj h
   simp only [e0, hd]
   simp -dsimp only [go_sem, gS, f3]
   refine newK_hp (fun b5 f5 => ?_)
   simp only [off_cons, off_nil] at f5
   simp -dsimp only [go_sem, gS, f3, f5]
   refine andK_split rfl ?_
   simp -dsimp only [go_sem, gS, f3, f5]
   refine hself _ _ ?_
   simp -dsimp only [go_sem, gS, f3, f5]
   exact retW_drop (G := H) (leH_hp0 (by simp only [hpS, eq_self, implies_true, f3, f5])) (retW_is hK)
 ·rw [errD_no h1]
  simp -dsimp only [go_sem, gS, hd]
  refine newK_hp (fun b3 f3 => ?_)
  simp only [off_cons, off_nil] at f3
  simp -dsimp only [go_sem, gS, f3]
  repeat
   refine andK_split rfl ?_
   simp -dsimp only [go_sem, gS, f3]
  exact retW_drop (G := H) (leH_hp0 (by simp only [hpS, eq_self, implies_true, f3])) (retW_is hK)
end Go.Aug
