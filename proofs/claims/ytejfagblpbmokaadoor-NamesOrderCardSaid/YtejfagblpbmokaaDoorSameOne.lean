/- The contracts of comparisons of a thing with itself; conditions stand in each contract. -/
import Derived.Test.YtejfagblpbmokaaDoorClausesOne
set_option linter.all false
set_option linter.unusedVariables false
set_option linter.unusedSimpArgs false
set_option linter.unusedSectionVars false

/- The reference's comparisons: of a thing with itself they say yes. -/
namespace Go.Aug
open Nat renaming reduceBEq → zA, reduceLT → zB, reduceAdd → zC, reduceSub → zD, reduceMul → zE, reduceLeDiff → zF
open Int renaming reduceLE → zG
open Go.Proofs
set_option maxRecDepth 100000
set_option linter.unusedSimpArgs false
attribute [local irreducible] hid andK letA onSome onVar onArr arrOnly onInt onBool onFunc onTup idxA ldV ldD addO appTo fillL slA srcK nilQ retW gif sgd sguard svc sops sdops sagain aopO aLoad aStore aBin aUn aConv aLen aIndexAddr aIndex aIndexAddrS aIndexS aSlice aAppend aBuild aBuildSlice aMakeSlice aField aFieldOf aCallOp deepK deepL frzM putE newK newV growV ACall roundQ thenQ inBlockQ sret cnd szs nilC onMap onRow aLookup aMapUpdate aMakeMap
attribute [local go_sem] Int.natCast_zero
theorem sameTerms_row {eb : EbG} (ts : List Tm) (hl : ts.length ≤ 1048576) (h : ∀ t ∈ ts, ∀ (H : Heap) (K : A → Heap → Prop), K (.d (.bool true)) H → ACall Tryd.prog (seatV eb) 136 [.d t.d, .d t.d] H K) (H : Heap) (K : A → Heap → Prop) (hK : K (.d (.bool true)) H) :
  ACall Tryd.prog (seatV eb) 109 [.d (.slice (ts.map Tm.d)), .d (.slice (ts.map Tm.d))] H K := by
 refine ACall.by mixed fn109 (by simp) ?_
 conv in s109 => cbv
 refine svc_start ?_
 simp -dsimp (maxDischargeDepth := 9) only [go_sem, zA, zB, zC, zD, zE, zF, zG, gS, decide_true]
 refine svc_loop (X := Nat) (fun j => [(0, .d (.slice (ts.map Tm.d))), (1, .d (.slice (ts.map Tm.d))), (12, .d (.int .i64 ts.length)), (13, .d (.int .i64 j))]) (fun j G => G = H ∧ j ≤ ts.length) (fun j => ts.length - j) 0 _ ⟨rfl, Nat.zero_le _⟩ (by simp -dsimp (maxDischargeDepth := 9) only [go_sem, zA, zB, zC, zD, zE, zF, zG, gS]) (fun _ _ h => h) ?_
 rintro j G ⟨hG, hj⟩
 subst hG
 simp -dsimp (maxDischargeDepth := 9) only [go_sem, zA, zB, zC, zD, zE, zF, zG, gS]
 refine gif_split (fun q1 => ?_) (fun q1 => ?_)
 ·have q1' : j < ts.length := by have := of_decide_eq_true q1; omega
  obtain ⟨t, hx⟩ := list_at q1'
  have hw := wrapN (k := j) (by omega)
  have ht := h t (List.mem_of_getElem? hx)
  obtain ⟨tk, tn, ti, ta⟩ := t
  simp -dsimp (maxDischargeDepth := 9) only [go_sem, zA, zB, zC, zD, zE, zF, zG, gS, q1, hx, Tm.d, Tm.cs]
  refine ht _ _ ?_
  simp -dsimp (maxDischargeDepth := 9) only [go_sem, zA, zB, zC, zD, zE, zF, zG, gS, hw]
  refine roundQ_next (j + 1) _ ⟨rfl, q1'⟩ (by omega) (by simp -dsimp (maxDischargeDepth := 9) only [go_sem, zA, zB, zC, zD, zE, zF, zG, gS]) (fun _ _ h => h)
 ·simp -dsimp (maxDischargeDepth := 9) only [go_sem, zA, zB, zC, zD, zE, zF, zG, gS, q1]
  exact retW_is hK
theorem sameTypes_row {eb : EbG} (ts : List Ty) (hl : ts.length ≤ 1048576) (h : ∀ t ∈ ts, ∀ (H : Heap) (K : A → Heap → Prop), K (.d (.bool true)) H → ACall Tryd.prog (seatV eb) 68 [.d t.d, .d t.d] H K) (H : Heap) (K : A → Heap → Prop) (hK : K (.d (.bool true)) H) :
  ACall Tryd.prog (seatV eb) 27 [.d (.slice (ts.map Ty.d)), .d (.slice (ts.map Ty.d))] H K := by
 refine ACall.by mixed fn27 (by simp) ?_
 conv in s27 => cbv
 refine svc_start ?_
 simp -dsimp (maxDischargeDepth := 9) only [go_sem, zA, zB, zC, zD, zE, zF, zG, gS, decide_true]
 refine svc_loop (X := Nat) (fun j => [(0, .d (.slice (ts.map Ty.d))), (1, .d (.slice (ts.map Ty.d))), (12, .d (.int .i64 ts.length)), (13, .d (.int .i64 j))]) (fun j G => G = H ∧ j ≤ ts.length) (fun j => ts.length - j) 0 _ ⟨rfl, Nat.zero_le _⟩ (by simp -dsimp (maxDischargeDepth := 9) only [go_sem, zA, zB, zC, zD, zE, zF, zG, gS]) (fun _ _ h => h) ?_
 rintro j G ⟨hG, hj⟩
 subst hG
 simp -dsimp (maxDischargeDepth := 9) only [go_sem, zA, zB, zC, zD, zE, zF, zG, gS]
 refine gif_split (fun q1 => ?_) (fun q1 => ?_)
 ·have q1' : j < ts.length := by have := of_decide_eq_true q1; omega
  obtain ⟨t, hx⟩ := list_at q1'
  have hw := wrapN (k := j) (by omega)
  have ht := h t (List.mem_of_getElem? hx)
  obtain ⟨tv, tn, ta⟩ := t
  simp -dsimp (maxDischargeDepth := 9) only [go_sem, zA, zB, zC, zD, zE, zF, zG, gS, q1, hx, Ty.d, Ty.cs]
  refine ht _ _ ?_
  simp -dsimp (maxDischargeDepth := 9) only [go_sem, zA, zB, zC, zD, zE, zF, zG, gS, hw]
  refine roundQ_next (j + 1) _ ⟨rfl, q1'⟩ (by omega) (by simp -dsimp (maxDischargeDepth := 9) only [go_sem, zA, zB, zC, zD, zE, zF, zG, gS]) (fun _ _ h => h)
 ·simp -dsimp (maxDischargeDepth := 9) only [go_sem, zA, zB, zC, zD, zE, zF, zG, gS, q1]
  exact retW_is hK
mutual
def Ty.nodes : Ty → Nat
 | .mk _ _ xs => 1 + Ty.nodess xs
def Ty.nodess : List Ty → Nat
 | [] => 0
 | t :: ts => t.nodes + Ty.nodess ts
end
theorem Ty.nodess_mem {t : Ty} : ∀ {ts : List Ty}, t ∈ ts → t.nodes ≤ Ty.nodess ts
 | _ :: _, .head _ => by simp only [Ty.nodess]; omega
 | _ :: _, .tail _ h => by have := Ty.nodess_mem h; simp only [Ty.nodess]; omega
theorem sameType_self {eb : EbG} : ∀ (m : Nat) (t : Ty), t.nodes ≤ m → t.small → ∀ (H : Heap) (K : A → Heap → Prop), K (.d (.bool true)) H → ACall Tryd.prog (seatV eb) 68 [.d t.d, .d t.d] H K
 | 0, .mk v n ts, hm, _, _, _, _ => by simp only [Ty.nodes] at hm; omega
 | m + 1, .mk v n ts, hm, hs, H, K, hK => by
  simp only [Ty.nodes] at hm
  refine ACall.hp_start ?_
  refine ACall.by mixed fn68 (by simp) ?_
  conv in s68 => cbv
  refine svc_start ?_
  simp -dsimp (maxDischargeDepth := 9) only [go_sem, zA, zB, zC, zD, zE, zF, zG, gS, Ty.d, Ty.cs, Ty.ds_map]
  refine newK_hp (fun b2 f2 => ?_)
  simp only [off_cons, off_nil] at f2
  simp -dsimp (maxDischargeDepth := 9) only [go_sem, zA, zB, zC, zD, zE, zF, zG, gS, f2]
  refine newK_hp (fun b3 f3 => ?_)
  simp only [off_cons, off_nil] at f3
  simp -dsimp (maxDischargeDepth := 9) only [go_sem, zA, zB, zC, zD, zE, zF, zG, gS, f2, f3, decide_true, beq_self_eq_true]
  refine sameTypes_row ts (by have := hs.1; omega) (fun t ht => sameType_self m t (by have := Ty.nodess_mem ht; omega) (Ty.smalls_mem hs.2 t ht)) _ _ ?_
  simp -dsimp (maxDischargeDepth := 9) only [go_sem, zA, zB, zC, zD, zE, zF, zG, gS, f2, f3]
  exact retW_drop (G := H) (leH_hp0 (by simp only [hpS, eq_self, implies_true, f2, f3])) (retW_is hK)
theorem sameTypes_self {eb : EbG} (ts : List Ty) (hl : ts.length ≤ 1048576) (hs : Ty.smalls ts) (H : Heap) (K : A → Heap → Prop) (hK : K (.d (.bool true)) H) :
  ACall Tryd.prog (seatV eb) 27 [.d (.slice (ts.map Ty.d)), .d (.slice (ts.map Ty.d))] H K :=
 sameTypes_row ts hl (fun t ht => sameType_self t.nodes t (Nat.le_refl _) (Ty.smalls_mem hs t ht)) H K hK
end Go.Aug

/- The reference's comparisons: goals and items with themselves. -/
namespace Go.Aug
open Go.Proofs
set_option maxRecDepth 100000
set_option linter.unusedSimpArgs false
attribute [local irreducible] hid andK letA onSome onVar onArr arrOnly onInt onBool onFunc onTup idxA ldV ldD addO appTo fillL slA srcK nilQ retW gif sgd sguard svc sops sdops sagain aopO aLoad aStore aBin aUn aConv aLen aIndexAddr aIndex aIndexAddrS aIndexS aSlice aAppend aBuild aBuildSlice aMakeSlice aField aFieldOf aCallOp deepK deepL frzM putE newK newV growV ACall roundQ thenQ inBlockQ sret cnd szs nilC onMap onRow aLookup aMapUpdate aMakeMap
attribute [local go_sem] Int.natCast_zero
end Go.Aug

/- The errors' numbers; the program's comparison of flat goals, of a goal with itself. -/
namespace Go.Aug
open Nat renaming reduceBEq → zA, reduceLT → zB, reduceAdd → zC, reduceSub → zD, reduceMul → zE, reduceLeDiff → zF
open Int renaming reduceLE → zG
open Go.Proofs
set_option maxRecDepth 100000
set_option linter.unusedSimpArgs false
attribute [local irreducible] hid andK letA onSome onVar onArr arrOnly onInt onBool onFunc onTup idxA ldV ldD addO appTo fillL slA srcK nilQ retW gif sgd sguard svc sops sdops sagain aopO aLoad aStore aBin aUn aConv aLen aIndexAddr aIndex aIndexAddrS aIndexS aSlice aAppend aBuild aBuildSlice aMakeSlice aField aFieldOf aCallOp deepK deepL frzM putE newK newV growV ACall roundQ thenQ inBlockQ sret cnd szs nilC onMap onRow aLookup aMapUpdate aMakeMap
attribute [local go_sem] Int.natCast_zero
/-- All sentinels are known. -/
class OnAll (e : EbG) : Prop where
 on : ∀ g < 16, e.on g = true
instance {e : EbG} [h : OnAll e] : On e 1 := ⟨h.on 1 (by decide)⟩
instance {e : EbG} [h : OnAll e] : On e 2 := ⟨h.on 2 (by decide)⟩
def errsL : List Nat := [3, 4, 5, 2, 0, 6, 7, 8, 1, 9, 10, 11, 12, 13, 14, 15]
theorem numNil_ok {eb : EbG} (H : Heap) (K : A → Heap → Prop) (hK : K (.d (.int .i64 0)) H) : ACall Tryd.prog (seatV eb) 25 [.d (.raw .nilIface)] H K := by
 refine ACall.by mixed fn25 (by simp) ?_
 conv in s25 => cbv
 refine svc_start ?_
 simp -dsimp (maxDischargeDepth := 9) only [go_sem, zA, zB, zC, zD, zE, zF, zG, gS]
 refine andK_split rfl ?_
 simp -dsimp (maxDischargeDepth := 9) only [go_sem, zA, zB, zC, zD, zE, zF, zG, gS]
 exact retW_is hK
set_option maxHeartbeats 4000000 in
theorem num_ok {eb : EbG} [ho : OnAll eb] (n k : Nat) (hk : errsL[k]? = some n) (hf : ∀ j < k, ∀ m, errsL[j]? = some m → m ≠ n) (H : Heap) (K : A → Heap → Prop) (hK : K (.d (.int .i64 ((k + 1 : Nat) : Int))) H) : ACall Tryd.prog (seatV eb) 25 [.d (.sent n)] H K := by
 have hG : ∀ g < 16, (seatV eb).G g = some (.sent g) := fun g hg => if_pos (ho.on g hg)
 have g0 := hG 0 (by decide)
 have g1 := hG 1 (by decide)
 have g2 := hG 2 (by decide)
 have g3 := hG 3 (by decide)
 have g4 := hG 4 (by decide)
 have g5 := hG 5 (by decide)
 have g6 := hG 6 (by decide)
 have g7 := hG 7 (by decide)
 have g8 := hG 8 (by decide)
 have g9 := hG 9 (by decide)
 have g10 := hG 10 (by decide)
 have g11 := hG 11 (by decide)
 have g12 := hG 12 (by decide)
 have g13 := hG 13 (by decide)
 have g14 := hG 14 (by decide)
 have g15 := hG 15 (by decide)
 refine ACall.hp_start ?_
 refine ACall.by mixed fn25 (by simp) ?_
 conv in s25 => cbv
 refine svc_start ?_
 simp -dsimp (maxDischargeDepth := 9) only [go_sem, zA, zB, zC, zD, zE, zF, zG, gS]
 simp -dsimp (maxDischargeDepth := 9) only [go_sem, zA, zB, zC, zD, zE, zF, zG, gS, g0, g1, g2, g3, g4, g5, g6, g7, g8, g9, g10, g11, g12, g13, g14, g15]
 clear g0 g1 g2 g3 g4 g5 g6 g7 g8 g9 g10 g11 g12 g13 g14 g15
 have hall : ∀ m ∈ errsL, m < 16 := by decide
 have hgn := hG n (hall n (List.mem_of_getElem? hk))
 refine newV_hp (fun b24 v24 f24 w24 => ?_)
 simp only [off_cons, off_nil] at f24
 simp -dsimp (maxDischargeDepth := 9) only [go_sem, zA, zB, zC, zD, zE, zF, zG, gS, f24, List.length_cons, List.length_nil]
 have hE : errsL.map D.sent = [.sent 3, .sent 4, .sent 5, .sent 2, .sent 0, .sent 6, .sent 7, .sent 8, .sent 1, .sent 9, .sent 10, .sent 11, .sent 12, .sent 13, .sent 14, .sent 15] := rfl
 have hlen : errsL.length = 16 := rfl
 have hkl := (List.getElem?_eq_some_iff.1 hk).1
 refine svc_loop (X := Nat) (fun j => [(0, .d (.sent n)), (25, .own b24 v24), (26, .d (.int .i64 ((16 : Nat) : Int))), (27, .d (.int .i64 j))]) (fun j G => G = hp H [(b24, .arr 43 1 v24 (errsL.map D.sent))] ∧ j ≤ k) (fun j => 16 - j) 0 _ ⟨rfl, Nat.zero_le _⟩ (by simp -dsimp (maxDischargeDepth := 9) only [go_sem, zA, zB, zC, zD, zE, zF, zG, gS]) (leH_hp (by simp only [hpS, eq_self, implies_true, f24, hE]) (by simp only [hpS, eq_self, implies_true, f24, hE])) ?_
 rintro j G ⟨hGG, hj⟩
 subst hGG
 have q1 : decide ((j : Int) < ((16 : Nat) : Int)) = true := by simp; omega
 have q1' : j < errsL.length := by omega
 obtain ⟨m, hx⟩ := list_at q1'
 have hw := wrapN (k := j) (by omega)
 simp -dsimp (maxDischargeDepth := 9) only [go_sem, zA, zB, zC, zD, zE, zF, zG, gS, q1, q1', hx, f24, Option.map_some]
 have hgm := hG m (hall m (List.mem_of_getElem? hx))
 refine andK_split ⟨hgn, hgm⟩ ?_
 by_cases hjk : j = k
 ·subst hjk
  rw [hk] at hx
  cases hx
  simp -dsimp (maxDischargeDepth := 9) only [go_sem, zA, zB, zC, zD, zE, zF, zG, gS, f24, decide_true, hw]
  exact retW_drop (G := H) (leH_hp0 (by simp only [hpS, eq_self, implies_true, f24])) (retW_is hK)
 ·have hne : decide (n = m) = false := by
   have := hf j (by omega) m hx
   simp; omega
  simp -dsimp (maxDischargeDepth := 9) only [go_sem, zA, zB, zC, zD, zE, zF, zG, gS, f24, hne, hw]
  refine roundQ_next (j + 1) _ ⟨rfl, by omega⟩ (by omega) (by simp -dsimp (maxDischargeDepth := 9) only [go_sem, zA, zB, zC, zD, zE, zF, zG, gS]) (leH_hp (by simp only [hpS, eq_self, implies_true, f24]) (by simp only [hpS, eq_self, implies_true, f24]))
end Go.Aug

/- The program's comparison of flat goals: a goal with itself. -/
namespace Go.Aug
open Go.Proofs
set_option maxRecDepth 100000
set_option linter.unusedSimpArgs false
attribute [local irreducible] hid andK letA onSome onVar onArr arrOnly onInt onBool onFunc onTup idxA ldV ldD addO appTo fillL slA srcK nilQ retW gif sgd sguard svc sops sdops sagain aopO aLoad aStore aBin aUn aConv aLen aIndexAddr aIndex aIndexAddrS aIndexS aSlice aAppend aBuild aBuildSlice aMakeSlice aField aFieldOf aCallOp deepK deepL frzM putE newK newV growV ACall roundQ thenQ inBlockQ sret cnd szs nilC onMap onRow aLookup aMapUpdate aMakeMap
attribute [local go_sem] Int.natCast_zero
end Go.Aug
