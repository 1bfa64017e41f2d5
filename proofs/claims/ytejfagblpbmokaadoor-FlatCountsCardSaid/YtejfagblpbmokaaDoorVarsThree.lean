/- The contracts of flat.Vars and of the laws that range over it; conditions stand in each contract. -/
import Derived.Test.YtejfagblpbmokaaDoorVarsTwo
import Derived.Test.YtejfagblpbmokaaDoorAugNine
set_option linter.all false
set_option linter.unusedVariables false
set_option linter.unusedSimpArgs false
set_option linter.unusedSectionVars false

/- flat.Vars: the variables, handed over one behind the other. -/
namespace Go.Aug
open Go.Proofs
set_option maxRecDepth 100000
set_option linter.unusedSimpArgs false
attribute [local irreducible] hid andK letA onSome onVar onArr arrOnly onInt onBool onTup idxA ldV ldD addO appTo fillL slA srcK nilQ retW gif sgd sguard svc sops sdops sagain aopO aLoad aStore aBin aUn aConv aLen aIndexAddr aIndex aIndexAddrS aIndexS aSlice aAppend aBuild aBuildSlice aMakeSlice aField aFieldOf aCallOp deepK deepL frzM putE newK newV growV ACall roundQ thenQ inBlockQ sret cnd szs nilC onMap onRow aLookup aMapUpdate aMakeMap
attribute [local go_sem] Int.natCast_zero
abbrev seqV (l : List Int) : A := .func 132 [.imm [.slice (l.map (.int .i64))]]
set_option maxHeartbeats 2000000 in
theorem values_ok {eb : EbG} (l : List Int) (H : Heap) (K : A → Heap → Prop) (hK : K (seqV l) H) :
  ACall Tryd.prog (seatV eb) 87 [.d (.slice (l.map (.int .i64)))] H K := by
 refine ACall.hp_start ?_
 refine ACall.by mixed fn87 (by simp) ?_
 conv in s87 => cbv
 refine svc_start ?_
 simp -dsimp only [go_sem, gS]
 refine newK_hp (fun b1 f1 => ?_)
 simp only [off_cons, off_nil] at f1
 simp -dsimp only [go_sem, gS, f1]
 refine retW_still (ds := [.slice (l.map (.int .i64))]) (by simp only [hpS, eq_self, implies_true, f1, List.map_cons, List.map_nil]) ?_
 simp -dsimp only [go_sem, gS, f1]
 exact retW_drop (G := H) (leH_hp0 (by simp only [hpS, eq_self, implies_true, f1])) (retW_is hK)
set_option maxHeartbeats 2000000 in
theorem iterV_ok {eb : EbG} (l : List Int) (hl : l.length ≤ 1048576) : Iter Tryd.prog (seatV eb) 132 [.imm [.slice (l.map (.int .i64))]] (l.map fun v => [.d (.int .i64 v)]) := by
 intro lo J JX H K hr h0 hd hx
 refine ACall.by mixed fn132 (by simp) ?_
 conv in s132 => cbv
 refine svc_start ?_
 simp -dsimp only [go_sem, gS]
 refine svc_loop (X := Nat) (fun j => [(7, .d (.int .i64 j)), (6, .d (.int .i64 l.length)), (5, .d (.slice (l.map (.int .i64)))), (0, .yld lo)])
  (fun j G => J j G ∧ j ≤ l.length) (fun j => l.length - j) 0 H ⟨h0, Nat.zero_le _⟩ (by simp -dsimp only [go_sem, gS]) (.refl _) ?_
 rintro j G ⟨hJ, hj⟩
 have hwj := wrapN (k := j) (by omega)
 simp -dsimp only [go_sem, gS]
 refine gif_split (fun q1 => ?_) (fun q1 => ?_)
 ·have hj2 : j < l.length := by have := of_decide_eq_true q1; omega
  obtain ⟨v, hv⟩ : ∃ v, l[j]? = some v := ⟨_, List.getElem?_eq_getElem hj2⟩
  simp -dsimp only [go_sem, gS, q1, hv, List.getElem?_map, Option.map_some]
  refine (hr j [.d (.int .i64 v)] G (by rw [List.getElem?_map, hv]; rfl) hJ).mono ?_
  rintro r G1 (⟨rfl, hJ1⟩ | ⟨rfl, hJ1⟩)
  ·simp -dsimp only [go_sem, gS, hwj]
   exact roundQ_next (j + 1) _ ⟨hJ1, by omega⟩ (by omega) (by simp -dsimp only [go_sem, gS]) (.refl _)
  ·simp -dsimp only [go_sem, gS]
   exact retW_is (hx _ hJ1)
 ·have e : j = l.length := by have := of_decide_eq_false q1; omega
  subst e
  simp -dsimp only [go_sem, gS, q1]
  exact retW_is (hd _ (by rw [List.length_map]; exact hJ))
set_option maxHeartbeats 2000000 in
theorem vars_ok {eb : EbG} {n : Nat} (hn : n ≤ 1048576) (f : Fl) (hf : f.okG (numIn n)) (H : Heap) (K : A → Heap → Prop) (hK : K (seqV (fVars f [])) H) : ACall Tryd.prog (seatV eb) 44 [.d f.d] H K := by
 obtain ⟨k, x, y, i, ⟨cn, ca⟩, ⟨pn, pa⟩, xs, gs⟩ := f
 refine ACall.hp_start ?_
 refine ACall.by mixed fn44 (by simp) ?_
 conv in s44 => cbv
 refine svc_start ?_
 simp -dsimp only [go_sem, gS, Fl.d, Fl.cs]
 refine newK_hp (fun b1 f1 => ?_)
 simp only [off_cons, off_nil] at f1
 simp -dsimp only [go_sem, gS, f1]
 refine newK_hp (fun b3 f3 => ?_)
 simp only [off_cons, off_nil] at f3
 simp -dsimp only [go_sem, gS, f1, f3]
 refine newK_hp (fun b5 f5 => ?_)
 simp only [off_cons, off_nil] at f5
 simp -dsimp only [go_sem, gS, f1, f3, f5]
 refine ACall.le (G := hp H [(b3, .var [.nils]), (b5, vmap [])]) (each_ok hn _ (.mk k x y i ⟨cn, ca⟩ ⟨pn, pa⟩ xs gs) (Nat.le_refl _) hf H H b3 b5 .nils [] (by simp only [hpS, eq_self, implies_true, f3, f5]) ((AccN.none H [b3, b5]).nil _ _) (Nums.nil n) _ (fun a R hacc => ?_)) (leH_hp (by simp only [hpS, eq_self, implies_true, f1, f3, f5, vmap, enci, List.map_nil]) (by simp only [hpS, eq_self, implies_true, f1, f3, f5, vmap, enci, List.map_nil]))
 simp -dsimp only [go_sem, gS, f1, f3, f5]
 refine ACall.frz [true] ?_
 simp only [frzM]
 refine AccN.deep (pre := []) hacc (by simp only [hpS, eq_self, implies_true, f3, f5]) (fun R4 hacc4 hn4 => ?_)
 refine values_ok _ _ _ ?_
 simp -dsimp only [go_sem, gS, f3, f5]
 exact retW_drop (G := H) (leH_hp02 hacc4.le (by simp only [hpS, eq_self, implies_true, f3, f5])) (retW_is hK)
end Go.Aug
