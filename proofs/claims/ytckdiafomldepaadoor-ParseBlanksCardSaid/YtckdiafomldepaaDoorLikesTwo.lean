/- The contracts of comparisons of a thing with itself, and of the errors' numbers; conditions stand in each contract. -/
import Derived.Test.YtckdiafomldepaaDoorLikesOne
set_option linter.all false
set_option linter.unusedVariables false
set_option linter.unusedSimpArgs false
set_option linter.unusedSectionVars false

/- Walks of SmC. -/
namespace Go.Aug
open Go.Proofs
set_option maxRecDepth 100000
set_option linter.unusedSimpArgs false
attribute [local irreducible] hid andK letA onSome onVar onArr arrOnly onInt onBool onTup idxA ldV ldD addO ofPart appTo fillL slA srcK nilQ retW gif sgd sguard svc sops sdops sagain aopO aLoad aStore aBin aUn aConv aLen aIndexAddr aIndex aIndexAddrS aIndexS aSlice aAppend aBuild aBuildSlice aMakeSlice aField aFieldOf aCallOp deepK deepL frzM putE newK newV growV ACall roundQ thenQ inBlockQ sret cnd szs nilC aLookup aMapUpdate aMakeMap
attribute [local go_sem] Int.natCast_zero
/-- All sentinels are known. -/
class OnAll (e : EbG) : Prop where
 on : ∀ g < 16, e.on g = true
/-- The errors, in the order of their numbers. -/
def errsL : List Nat := [3, 2, 0, 1, 4, 5, 6, 7, 8, 9, 10, 11, 12, 13, 14, 15]
theorem numNil_ok {eb : EbG} (H : Heap) (K : A → Heap → Prop) (hK : K (.d (.int .i64 0)) H) : ACall Tryd.prog (seatV eb) 12 [.d (.raw .nilIface)] H K := by
 refine ACall.by mixed fn12 (by simp) ?_
 conv in s12 => cbv
 refine svc_start ?_
 simp -dsimp only [go_sem, gS]
 refine andK_split rfl ?_
 simp -dsimp only [go_sem, gS]
 exact retW_is hK
set_option maxHeartbeats 4000000 in
theorem num_ok {eb : EbG} [ho : OnAll eb] (n k : Nat) (hk : errsL[k]? = some n) (hf : ∀ j < k, ∀ m, errsL[j]? = some m → m ≠ n) (H : Heap) (K : A → Heap → Prop) (hK : K (.d (.int .i64 ((k + 1 : Nat) : Int))) H) : ACall Tryd.prog (seatV eb) 12 [.d (.sent n)] H K := by
 have hG : ∀ g < 16, (seatV eb).G g = some (.sent g) := fun g hg => if_pos (ho.on g hg)
 have g0 := hG 0 (by decide)
 have g1 := hG 1 (by decide)
 have g2 := hG 2 (by decide)
 have g3 := hG 3 (by decide)
 have g4 := hG 4 (by decide)
 have g5 := hG 5 (by decide)
 have g6 := hG 6 (by decide)
 have g7 := hG 7 (by decide)
 have g8 := hG 8 (by decide)
 have g9 := hG 9 (by decide)
 have g10 := hG 10 (by decide)
 have g11 := hG 11 (by decide)
 have g12 := hG 12 (by decide)
 have g13 := hG 13 (by decide)
 have g14 := hG 14 (by decide)
 have g15 := hG 15 (by decide)
 refine ACall.hp_start ?_
 refine ACall.by mixed fn12 (by simp) ?_
 conv in s12 => cbv
 refine svc_start ?_
 simp -dsimp only [go_sem, gS]
 simp -dsimp only [go_sem, gS, g0, g1, g2, g3, g4, g5, g6, g7, g8, g9, g10, g11, g12, g13, g14, g15]
 clear g0 g1 g2 g3 g4 g5 g6 g7 g8 g9 g10 g11 g12 g13 g14 g15
 have hall : ∀ m ∈ errsL, m < 16 := by decide
 have hgn := hG n (hall n (List.mem_of_getElem? hk))
 refine newV_hp (fun b24 v24 f24 w24 => ?_)
 simp only [off_cons, off_nil] at f24
 simp -dsimp only [go_sem, gS, f24, List.length_cons, List.length_nil]
 have hE : errsL.map D.sent = [.sent 3, .sent 2, .sent 0, .sent 1, .sent 4, .sent 5, .sent 6, .sent 7, .sent 8, .sent 9, .sent 10, .sent 11, .sent 12, .sent 13, .sent 14, .sent 15] := rfl
 have hlen : errsL.length = 16 := rfl
 have hkl := (List.getElem?_eq_some_iff.1 hk).1
 refine svc_loop (X := Nat) (fun j => [(0, .d (.sent n)), (25, .own b24 v24), (26, .d (.int .i64 ((16 : Nat) : Int))), (27, .d (.int .i64 j))]) (fun j G => G = hp H [(b24, .arr 28 1 v24 (errsL.map D.sent))] ∧ j ≤ k) (fun j => 16 - j) 0 _ ⟨rfl, Nat.zero_le _⟩ (by simp -dsimp only [go_sem, gS]) (leH_hp (by simp only [hpS, eq_self, implies_true, f24, hE]) (by simp only [hpS, eq_self, implies_true, f24, hE])) ?_
 rintro j G ⟨hGG, hj⟩
 subst hGG
 have q1 : decide ((j : Int) < ((16 : Nat) : Int)) = true := by simp; omega
 have q1' : j < errsL.length := by omega
 obtain ⟨m, hx⟩ := list_at q1'
 have hw := wrapN (k := j) (by omega)
 simp -dsimp only [go_sem, gS, q1, q1', hx, f24, Option.map_some]
 have hgm := hG m (hall m (List.mem_of_getElem? hx))
 refine andK_split ⟨hgn, hgm⟩ ?_
 by_cases hjk : j = k
 ·subst hjk
  rw [hk] at hx
  cases hx
  simp -dsimp only [go_sem, gS, f24, decide_true, hw]
  exact retW_drop (G := H) (leH_hp0 (by simp only [hpS, eq_self, implies_true, f24])) (retW_is hK)
 ·have hne : decide (n = m) = false := by
   have := hf j (by omega) m hx
   simp; omega
  simp -dsimp only [go_sem, gS, f24, hne, hw]
  refine roundQ_next (j + 1) _ ⟨rfl, by omega⟩ (by omega) (by simp -dsimp only [go_sem, gS]) (leH_hp (by simp only [hpS, eq_self, implies_true, f24]) (by simp only [hpS, eq_self, implies_true, f24]))
/-- The number of an error that the reader tells. -/
theorem numD_ok {eb : EbG} [OnAll eb] (e : Int) (he : e = 0 ∨ e = 1 ∨ e = 2 ∨ e = 3 ∨ e = 4) (H : Heap) (K : A → Heap → Prop) (hK : K (.d (.int .i64 e)) H) : ACall Tryd.prog (seatV eb) 12 [.d (errD e)] H K := by
 rcases he with rfl | rfl | rfl | rfl | rfl
 ·exact numNil_ok _ _ hK
 ·exact num_ok 3 0 rfl (by decide) _ _ hK
 ·exact num_ok 2 1 rfl (by decide) _ _ hK
 ·exact num_ok 0 2 rfl (by decide) _ _ hK
 ·exact num_ok 1 3 rfl (by decide) _ _ hK
end Go.Aug
