/- The contracts of flat.Vars and of the laws that range over it; conditions stand in each contract. -/
import Derived.Test.YtejfagblpbmokaaDoorVarsOne
import Derived.Test.YtejfagblpbmokaaDoorAugNine
import Derived.Test.YtejfagblpbmokaaDoorFlatOne
set_option linter.all false
set_option linter.unusedVariables false
set_option linter.unusedSimpArgs false
set_option linter.unusedSectionVars false

/- flat.Vars: the variables, handed over one behind the other. -/
namespace Go.Aug
open Go.Proofs
set_option maxRecDepth 100000
set_option linter.unusedSimpArgs false
attribute [local irreducible] hid andK letA onSome onVar onArr arrOnly onInt onBool onTup idxA ldV ldD addO appTo fillL slA srcK nilQ retW gif sgd sguard svc sops sdops sagain aopO aLoad aStore aBin aUn aConv aLen aIndexAddr aIndex aIndexAddrS aIndexS aSlice aAppend aBuild aBuildSlice aMakeSlice aField aFieldOf aCallOp deepK deepL frzM putE newK newV growV ACall roundQ thenQ inBlockQ sret cnd szs nilC onMap onRow aLookup aMapUpdate aMakeMap
attribute [local go_sem] Int.natCast_zero
abbrev seqV (l : List Int) : A := .func 132 [.imm [.slice (l.map (.int .i64))]]
set_option maxHeartbeats 2000000 in
theorem values_ok {eb : EbG} (l : List Int) (H : Heap) (K : A → Heap → Prop) (hK : K (seqV l) H) :
  ACall Tryd.prog (seatV eb) 87 [.d (.slice (l.map (.int .i64)))] H K := by
 refine ACall.hp_start ?_
 refine ACall.by mixed fn87 (by simp) ?_
 conv in s87 => cbv
 refine svc_start ?_
 simp -dsimp only [go_sem, gS]
 refine newK_hp (fun b1 f1 => ?_)
 simp only [off_cons, off_nil] at f1
 simp -dsimp only [go_sem, gS, f1]
 refine retW_still (ds := [.slice (l.map (.int .i64))]) (by simp only [hpS, eq_self, implies_true, f1, List.map_cons, List.map_nil]) ?_
 simp -dsimp only [go_sem, gS, f1]
 exact retW_drop (G := H) (leH_hp0 (by simp only [hpS, eq_self, implies_true, f1])) (retW_is hK)
set_option maxHeartbeats 2000000 in
theorem iterV_ok {eb : EbG} (l : List Int) (hl : l.length ≤ 1048576) : Iter Tryd.prog (seatV eb) 132 [.imm [.slice (l.map (.int .i64))]] (l.map fun v => [.d (.int .i64 v)]) := by
 intro lo J JX H K hr h0 hd hx
 refine ACall.by mixed fn132 (by simp) ?_
 conv in s132 => cbv
 refine svc_start ?_
 simp -dsimp only [go_sem, gS]
 refine svc_loop (X := Nat) (fun j => [(7, .d (.int .i64 j)), (6, .d (.int .i64 l.length)), (5, .d (.slice (l.map (.int .i64)))), (0, .yld lo)])
  (fun j G => J j G ∧ j ≤ l.length) (fun j => l.length - j) 0 H ⟨h0, Nat.zero_le _⟩ (by simp -dsimp only [go_sem, gS]) (.refl _) ?_
 rintro j G ⟨hJ, hj⟩
 have hwj := wrapN (k := j) (by omega)
 simp -dsimp only [go_sem, gS]
 refine gif_split (fun q1 => ?_) (fun q1 => ?_)
 ·have hj2 : j < l.length := by have := of_decide_eq_true q1; omega
  obtain ⟨v, hv⟩ : ∃ v, l[j]? = some v := ⟨_, List.getElem?_eq_getElem hj2⟩
  simp -dsimp only [go_sem, gS, q1, hv, List.getElem?_map, Option.map_some]
  refine (hr j [.d (.int .i64 v)] G (by rw [List.getElem?_map, hv]; rfl) hJ).mono ?_
  rintro r G1 (⟨rfl, hJ1⟩ | ⟨rfl, hJ1⟩)
  ·simp -dsimp only [go_sem, gS, hwj]
   exact roundQ_next (j + 1) _ ⟨hJ1, by omega⟩ (by omega) (by simp -dsimp only [go_sem, gS]) (.refl _)
  ·simp -dsimp only [go_sem, gS]
   exact retW_is (hx _ hJ1)
 ·have e : j = l.length := by have := of_decide_eq_false q1; omega
  subst e
  simp -dsimp only [go_sem, gS, q1]
  exact retW_is (hd _ (by rw [List.length_map]; exact hJ))
set_option maxHeartbeats 2000000 in
theorem vars_ok {eb : EbG} {n : Nat} (hn : n ≤ 1048576) (f : Fl) (hf : f.okG (numIn n)) (H : Heap) (K : A → Heap → Prop) (hK : K (seqV (fVars f [])) H) : ACall Tryd.prog (seatV eb) 44 [.d f.d] H K := by
 obtain ⟨k, x, y, i, ⟨cn, ca⟩, ⟨pn, pa⟩, xs, gs⟩ := f
 refine ACall.hp_start ?_
 refine ACall.by mixed fn44 (by simp) ?_
 conv in s44 => cbv
 refine svc_start ?_
 simp -dsimp only [go_sem, gS, Fl.d, Fl.cs]
 refine newK_hp (fun b1 f1 => ?_)
 simp only [off_cons, off_nil] at f1
 simp -dsimp only [go_sem, gS, f1]
 refine newK_hp (fun b3 f3 => ?_)
 simp only [off_cons, off_nil] at f3
 simp -dsimp only [go_sem, gS, f1, f3]
 refine newK_hp (fun b5 f5 => ?_)
 simp only [off_cons, off_nil] at f5
 simp -dsimp only [go_sem, gS, f1, f3, f5]
 refine ACall.le (G := hp H [(b3, .var [.nils]), (b5, vmap [])]) (each_ok hn _ (.mk k x y i ⟨cn, ca⟩ ⟨pn, pa⟩ xs gs) (Nat.le_refl _) hf H H b3 b5 .nils [] (by simp only [hpS, eq_self, implies_true, f3, f5]) ((AccN.none H [b3, b5]).nil _ _) (Nums.nil n) _ (fun a R hacc => ?_)) (leH_hp (by simp only [hpS, eq_self, implies_true, f1, f3, f5, vmap, enci, List.map_nil]) (by simp only [hpS, eq_self, implies_true, f1, f3, f5, vmap, enci, List.map_nil]))
 simp -dsimp only [go_sem, gS, f1, f3, f5]
 refine ACall.frz [true] ?_
 simp only [frzM]
 refine AccN.deep (pre := []) hacc (by simp only [hpS, eq_self, implies_true, f3, f5]) (fun R4 hacc4 hn4 => ?_)
 refine values_ok _ _ _ ?_
 simp -dsimp only [go_sem, gS, f3, f5]
 exact retW_drop (G := H) (leH_hp02 hacc4.le (by simp only [hpS, eq_self, implies_true, f3, f5])) (retW_is hK)
end Go.Aug

/- The reference's row of a flat goal's variables. -/
namespace Go.Aug
open Go.Proofs
set_option maxRecDepth 100000
set_option linter.unusedSimpArgs false
attribute [local irreducible] hid andK letA onSome onVar onArr arrOnly onInt onBool onTup idxA ldV ldD addO appTo fillL slA srcK nilQ retW gif sgd sguard svc sops sdops sagain aopO aLoad aStore aBin aUn aConv aLen aIndexAddr aIndex aIndexAddrS aIndexS aSlice aAppend aBuild aBuildSlice aMakeSlice aField aFieldOf aCallOp deepK deepL frzM putE newK newV growV ACall roundQ thenQ inBlockQ sret cnd szs nilC onMap onRow aLookup aMapUpdate aMakeMap
attribute [local go_sem] Int.natCast_zero
theorem mem_foldV : ∀ {l acc : List Int} {v : Int}, v ∈ l.foldl vStep acc ↔ v ∈ acc ∨ v ∈ l
 | [], acc, v => by simp
 | u :: l, acc, v => by
  rw [List.foldl_cons, mem_foldV]
  unfold vStep
  split
  ·rename_i h; constructor
   ·rintro (h1 | h1)
    ·exact .inl h1
    ·exact .inr (.tail _ h1)
   ·rintro (h1 | h1)
    ·exact .inl h1
    ·rcases List.mem_cons.1 h1 with rfl | h1
     ·exact .inl h
     ·exact .inr h1
  ·simp only [List.mem_append, List.mem_cons, List.mem_singleton, List.not_mem_nil, or_false, or_assoc]
theorem foldV_step {acc b : List Int} {v : Int} : (vStep b v).foldl vStep acc = vStep (b.foldl vStep acc) v := by
 by_cases h : v ∈ b
 ·rw [vStep, if_pos h, vStep, if_pos (mem_foldV.2 (.inr h))]
 ·rw [vStep, if_neg h, List.foldl_append]; rfl
/-- Each once, and then again: as if they were all gone over. -/
theorem foldV_fold : ∀ {l acc b : List Int}, (l.foldl vStep b).foldl vStep acc = l.foldl vStep (b.foldl vStep acc)
 | [], _, _ => rfl
 | v :: l, acc, b => by rw [List.foldl_cons, foldV_fold, foldV_step, List.foldl_cons]
mutual
theorem fVars_fold : ∀ (f : Fl) (acc b : List Int), (fVars f b).foldl vStep acc = fVars f (b.foldl vStep acc)
 | .mk k x y i c p xs gs, acc, b => by rw [fVars, fVarss_fold gs, foldV_fold, fVars]
theorem fVarss_fold : ∀ (gs : List Fl) (acc b : List Int), (fVarss gs b).foldl vStep acc = fVarss gs (b.foldl vStep acc)
 | [], _, _ => rfl
 | g :: gs, acc, b => by rw [fVarss, fVarss_fold gs, fVars_fold g, fVarss]
end
theorem fVarss_append : ∀ (gs hs : List Fl) (acc : List Int), fVarss (gs ++ hs) acc = fVarss hs (fVarss gs acc)
 | [], _, _ => rfl
 | g :: gs, hs, acc => by rw [List.cons_append, fVarss, fVarss_append gs, fVarss]
set_option maxHeartbeats 2000000 in
theorem inV_ok {eb : EbG} (H : Heap) (b : Nat) (v : Value) (xs : List Int) (x : Int) (hb : H b = some (.arr 3 1 v (xs.map (.int .i64)))) (hv : v.ownBlock = some b) (hl : xs.length ≤ 1048576) (K : A → Heap → Prop) (hK : K (.d (.bool (decide (x ∈ xs)))) H) :
  ACall Tryd.prog (seatV eb) 88 [.own b v, .d (.int .i64 x)] H K := by
 refine ACall.by mixed fn88 (by simp) ?_
 conv in s88 => cbv
 refine svc_start ?_
 simp -dsimp only [go_sem, gS, hb]
 refine svc_loop (X := Nat) (fun j => [(1, .d (.int .i64 x)), (7, .own b v), (8, .d (.int .i64 xs.length)), (9, .d (.int .i64 j))]) (fun j G => G = H ∧ j ≤ xs.length ∧ x ∉ xs.take j) (fun j => xs.length - j) 0 H ⟨rfl, Nat.zero_le _, by simp⟩ (by simp -dsimp only [go_sem, gS, List.length_map]) (.refl _) ?_
 rintro j G ⟨hG, hj, hno⟩
 subst hG
 have hw := wrapN (k := j) (by omega)
 simp -dsimp only [go_sem, gS, hb]
 refine gif_split (fun q1 => ?_) (fun q1 => ?_)
 ·have q1' : j < xs.length := by have := of_decide_eq_true q1; omega
  obtain ⟨u, hu⟩ := list_at q1'
  simp -dsimp only [go_sem, gS, q1, hb, hu, q1', List.length_map, List.getElem?_map, Option.map_some]
  refine gif_split (fun q2 => ?_) (fun q2 => ?_)
  ·have e : u = x := of_decide_eq_true q2
   subst e
   rw [decide_eq_true (List.mem_of_getElem? hu)] at hK
   simp -dsimp only [go_sem, gS, q2]
   exact retW_is hK
  ·have e : u ≠ x := of_decide_eq_false q2
   simp -dsimp only [go_sem, gS, q2, hw]
   refine roundQ_next (j + 1) _ ⟨rfl, q1', ?_⟩ (by omega) (by simp -dsimp only [go_sem, gS]) (.refl _)
   rw [List.take_succ, hu]
   simp only [Option.toList_some, List.mem_append, List.mem_singleton, not_or]
   exact ⟨hno, fun h => e h.symm⟩
 ·rw [List.take_of_length_le (by have := of_decide_eq_false q1; omega)] at hno
  rw [decide_eq_false hno] at hK
  simp -dsimp only [go_sem, gS, q1]
  exact retW_is hK
end Go.Aug

/- The reference's row of a flat goal's variables: the walk. -/
namespace Go.Aug
open Go.Proofs
set_option maxRecDepth 100000
set_option linter.unusedSimpArgs false
attribute [local irreducible] hid andK letA onSome onVar onArr arrOnly onInt onBool onTup idxA ldV ldD addO appTo fillL slA srcK nilQ retW gif sgd sguard svc sops sdops sagain aopO aLoad aStore aBin aUn aConv aLen aIndexAddr aIndex aIndexAddrS aIndexS aSlice aAppend aBuild aBuildSlice aMakeSlice aField aFieldOf aCallOp deepK deepL frzM putE newK newV growV ACall roundQ thenQ inBlockQ sret cnd szs nilC onMap onRow aLookup aMapUpdate aMakeMap
attribute [local go_sem] Int.natCast_zero
set_option maxHeartbeats 8000000 in
theorem vars05_ok {eb : EbG} {n : Nat} (hn : n ≤ 512) : ∀ (m : Nat) (f : Fl), f.nodes ≤ m → f.okG (numIn n) → ∀ (H : Heap) (K : A → Heap → Prop) (_ : K (.d (.slice ((fVars f []).map (.int .i64)))) H), ACall Tryd.prog (seatV eb) 45 [.d f.d] H K
 | 0, .mk k x y i c p xs gs, hm, _, _, _, _ => by simp only [Fl.nodes] at hm; omega
 | m + 1, .mk k x y i ⟨cn, ca⟩ ⟨pn, pa⟩ xs gs, hm, hok, H, K, hK => by
  simp only [Fl.nodes] at hm
  obtain ⟨hown, hxl, hgl, hgs⟩ := hok
  have hol : (nown (.mk k x y i ⟨cn, ca⟩ ⟨pn, pa⟩ xs gs)).length ≤ 32769 := by
   simp only [nown]
   repeat' split
   all_goals first | (simp; done) | (simp only [List.length_cons]; omega) | omega
  simp only [fVars] at hK
  generalize heq : nown (.mk k x y i ⟨cn, ca⟩ ⟨pn, pa⟩ xs gs) = own at hown hK hol
  simp only [nown] at heq
  refine ACall.hp_start ?_
  refine ACall.by mixed fn45 (by simp) ?_
  conv in s45 => cbv
  refine svc_start ?_
  simp -dsimp only [go_sem, gS, Fl.d, Fl.cs]
  refine newK_hp (fun b1 f1 => ?_)
  simp only [off_cons, off_nil] at f1
  simp -dsimp only [go_sem, gS, f1]
  refine newV_hp (fun b9 v9 f9 w9 => ?_)
  simp only [off_cons, off_nil] at f9
  simp -dsimp only [go_sem, gS, f1, f9]
  refine newV_hp (fun b10 v10 f10 w10 => ?_)
  simp only [off_cons, off_nil] at f10
  simp -dsimp only [go_sem, gS, f1, f9, f10]
  refine (fun (key : (?T : Prop)) => ?main) ?rest
  case main =>
   refine gif_split (fun g1 => ?_) (fun g1 => ?_)
   ·have e1 : k = 3 := of_decide_eq_true g1
    have eo : own = [x, y] := by rw [← heq, if_pos e1]
    simp -dsimp only [go_sem, gS, g1, f1, f9, f10]
    refine newV_hp (fun b20 v20 f20 w20 => ?_)
    simp only [off_cons, off_nil] at f20
    simp -dsimp only [go_sem, gS, f1, f9, f10, f20]
    refine growV_hp (b0 := b10) (by simp only [hpS, eq_self, implies_true, f1, f9, f10, f20]) (by simp only [hpS, eq_self, implies_true, f1, f9, f10, f20]) (fun b21 v21 f21 w21 => ?_)
    simp only [delL_cons, delL_nil, eqn_self, cnd_true, cnd_false, off_cons, off_nil, f1, f9, f10, f20] at f21
    simp -dsimp only [go_sem, gS, f1, f9, f10, f20, f21]
    have hacc0 : AccN H [] [pcV own (.own b21 v21), pcV [] (.own b9 v9)] (upd (upd H b9 (.arr 3 1 v9 [])) b21 (.arr 3 1 v21 (own.map (.int .i64)))) := ((AccN.none H []).new (E := 3) (sz := 1) (xs := []) (by simp only [hpS, eq_self, implies_true, ]) (by simp only [hpS, eq_self, implies_true, f1, f9, f20, f21]) w9).new (by simp only [hpS, eq_self, implies_true, ]) (upd_eq_none.2 ⟨eqn_false (by simp only [hpS, eq_self, implies_true, f1, f9, f20, f21]), by simp only [hpS, eq_self, implies_true, f1, f9, f20, f21]⟩) w21
    refine svc_loop (X := Nat × List Int × A × Heap) (fun u => [(3, .own b9 v9), (4, u.2.2.1), (48, .d (.slice (Fl.ds gs))), (49, .d (.int .i64 gs.length)), (50, .d (.int .i64 u.1))])
     (fun u G => G = hp u.2.2.2 [] ∧ AccN H [] [pcV u.2.1 u.2.2.1, pcV [] (.own b9 v9)] u.2.2.2 ∧ u.1 ≤ gs.length ∧ u.2.1.length ≤ 32769 + u.1 * 512 ∧ (∀ v ∈ u.2.1, numIn n v) ∧ u.2.1.foldl vStep [] = fVarss (gs.take u.1) (own.foldl vStep []))
     (fun u => gs.length - u.1) (0, own, .own b21 v21, (upd (upd H b9 (.arr 3 1 v9 [])) b21 (.arr 3 1 v21 (own.map (.int .i64))))) _ ⟨rfl, hacc0, Nat.zero_le _, hol, hown, rfl⟩ (by simp -dsimp only [go_sem, gS, Fl.ds_map, List.length_map]) (by rw [hp_base (by simp only [hpS, eq_self, implies_true, ]), hp_base (by simp only [hpS, eq_self, implies_true, f1, f9, f20, f21]), eo]; exact (leH_hp (by simp only [hpS, eq_self, implies_true, f1, f9, f20, f21, setL_cons, setL_nil, List.map_cons, List.map_nil]) (by simp only [hpS, eq_self, implies_true, f1, f9, f20, f21, setL_cons, setL_nil, List.map_cons, List.map_nil]))) ?_
    exact key
   ·have e1 : k ≠ 3 := of_decide_eq_false g1
    simp -dsimp only [go_sem, gS, g1, f1, f9, f10]
    refine gif_split (fun g2 => ?_) (fun g2 => ?_)
    ·have e2 : k = 4 := of_decide_eq_true g2
     have eo : own = [x] := by rw [← heq, if_neg e1, if_pos e2]
     simp -dsimp only [go_sem, gS, g1, g2, f1, f9, f10]
     refine newV_hp (fun b29 v29 f29 w29 => ?_)
     simp only [off_cons, off_nil] at f29
     simp -dsimp only [go_sem, gS, f1, f9, f10, f29]
     refine growV_hp (b0 := b10) (by simp only [hpS, eq_self, implies_true, f1, f9, f10, f29]) (by simp only [hpS, eq_self, implies_true, f1, f9, f10, f29]) (fun b30 v30 f30 w30 => ?_)
     simp only [delL_cons, delL_nil, eqn_self, cnd_true, cnd_false, off_cons, off_nil, f1, f9, f10, f29] at f30
     simp -dsimp only [go_sem, gS, f1, f9, f10, f29, f30]
     have hacc0 : AccN H [] [pcV own (.own b30 v30), pcV [] (.own b9 v9)] (upd (upd H b9 (.arr 3 1 v9 [])) b30 (.arr 3 1 v30 (own.map (.int .i64)))) := ((AccN.none H []).new (E := 3) (sz := 1) (xs := []) (by simp only [hpS, eq_self, implies_true, ]) (by simp only [hpS, eq_self, implies_true, f1, f9, f29, f30]) w9).new (by simp only [hpS, eq_self, implies_true, ]) (upd_eq_none.2 ⟨eqn_false (by simp only [hpS, eq_self, implies_true, f1, f9, f29, f30]), by simp only [hpS, eq_self, implies_true, f1, f9, f29, f30]⟩) w30
     refine svc_loop (X := Nat × List Int × A × Heap) (fun u => [(3, .own b9 v9), (4, u.2.2.1), (48, .d (.slice (Fl.ds gs))), (49, .d (.int .i64 gs.length)), (50, .d (.int .i64 u.1))])
      (fun u G => G = hp u.2.2.2 [] ∧ AccN H [] [pcV u.2.1 u.2.2.1, pcV [] (.own b9 v9)] u.2.2.2 ∧ u.1 ≤ gs.length ∧ u.2.1.length ≤ 32769 + u.1 * 512 ∧ (∀ v ∈ u.2.1, numIn n v) ∧ u.2.1.foldl vStep [] = fVarss (gs.take u.1) (own.foldl vStep []))
      (fun u => gs.length - u.1) (0, own, .own b30 v30, (upd (upd H b9 (.arr 3 1 v9 [])) b30 (.arr 3 1 v30 (own.map (.int .i64))))) _ ⟨rfl, hacc0, Nat.zero_le _, hol, hown, rfl⟩ (by simp -dsimp only [go_sem, gS, Fl.ds_map, List.length_map]) (by rw [hp_base (by simp only [hpS, eq_self, implies_true, ]), hp_base (by simp only [hpS, eq_self, implies_true, f1, f9, f29, f30]), eo]; exact (leH_hp (by simp only [hpS, eq_self, implies_true, f1, f9, f29, f30, setL_cons, setL_nil, List.map_cons, List.map_nil]) (by simp only [hpS, eq_self, implies_true, f1, f9, f29, f30, setL_cons, setL_nil, List.map_cons, List.map_nil]))) ?_
     exact key
    ·have e2 : k ≠ 4 := of_decide_eq_false g2
     simp -dsimp only [go_sem, gS, g1, g2, f1, f9, f10]
     refine gif_split (fun g3 => ?_) (fun g3 => ?_)
     ·have e3 : k = 10 := of_decide_eq_true g3
      have eo : own = [x] := by rw [← heq, if_neg e1, if_neg e2, if_pos e3]
      simp -dsimp only [go_sem, gS, g1, g2, g3, f1, f9, f10]
      refine newV_hp (fun b29 v29 f29 w29 => ?_)
      simp only [off_cons, off_nil] at f29
      simp -dsimp only [go_sem, gS, f1, f9, f10, f29]
      refine growV_hp (b0 := b10) (by simp only [hpS, eq_self, implies_true, f1, f9, f10, f29]) (by simp only [hpS, eq_self, implies_true, f1, f9, f10, f29]) (fun b30 v30 f30 w30 => ?_)
      simp only [delL_cons, delL_nil, eqn_self, cnd_true, cnd_false, off_cons, off_nil, f1, f9, f10, f29] at f30
      simp -dsimp only [go_sem, gS, f1, f9, f10, f29, f30]
      have hacc0 : AccN H [] [pcV own (.own b30 v30), pcV [] (.own b9 v9)] (upd (upd H b9 (.arr 3 1 v9 [])) b30 (.arr 3 1 v30 (own.map (.int .i64)))) := ((AccN.none H []).new (E := 3) (sz := 1) (xs := []) (by simp only [hpS, eq_self, implies_true, ]) (by simp only [hpS, eq_self, implies_true, f1, f9, f29, f30]) w9).new (by simp only [hpS, eq_self, implies_true, ]) (upd_eq_none.2 ⟨eqn_false (by simp only [hpS, eq_self, implies_true, f1, f9, f29, f30]), by simp only [hpS, eq_self, implies_true, f1, f9, f29, f30]⟩) w30
      refine svc_loop (X := Nat × List Int × A × Heap) (fun u => [(3, .own b9 v9), (4, u.2.2.1), (48, .d (.slice (Fl.ds gs))), (49, .d (.int .i64 gs.length)), (50, .d (.int .i64 u.1))])
       (fun u G => G = hp u.2.2.2 [] ∧ AccN H [] [pcV u.2.1 u.2.2.1, pcV [] (.own b9 v9)] u.2.2.2 ∧ u.1 ≤ gs.length ∧ u.2.1.length ≤ 32769 + u.1 * 512 ∧ (∀ v ∈ u.2.1, numIn n v) ∧ u.2.1.foldl vStep [] = fVarss (gs.take u.1) (own.foldl vStep []))
       (fun u => gs.length - u.1) (0, own, .own b30 v30, (upd (upd H b9 (.arr 3 1 v9 [])) b30 (.arr 3 1 v30 (own.map (.int .i64))))) _ ⟨rfl, hacc0, Nat.zero_le _, hol, hown, rfl⟩ (by simp -dsimp only [go_sem, gS, Fl.ds_map, List.length_map]) (by rw [hp_base (by simp only [hpS, eq_self, implies_true, ]), hp_base (by simp only [hpS, eq_self, implies_true, f1, f9, f29, f30]), eo]; exact (leH_hp (by simp only [hpS, eq_self, implies_true, f1, f9, f29, f30, setL_cons, setL_nil, List.map_cons, List.map_nil]) (by simp only [hpS, eq_self, implies_true, f1, f9, f29, f30, setL_cons, setL_nil, List.map_cons, List.map_nil]))) ?_
      exact key
     ·have e3 : k ≠ 10 := of_decide_eq_false g3
      simp -dsimp only [go_sem, gS, g1, g2, g3, f1, f9, f10]
      refine gif_split (fun g4 => ?_) (fun g4 => ?_)
      ·have e4 : k = 11 := of_decide_eq_true g4
       have eo : own = [x] := by rw [← heq, if_neg e1, if_neg e2, if_neg e3, if_pos e4]
       simp -dsimp only [go_sem, gS, g1, g2, g3, g4, f1, f9, f10]
       refine newV_hp (fun b29 v29 f29 w29 => ?_)
       simp only [off_cons, off_nil] at f29
       simp -dsimp only [go_sem, gS, f1, f9, f10, f29]
       refine growV_hp (b0 := b10) (by simp only [hpS, eq_self, implies_true, f1, f9, f10, f29]) (by simp only [hpS, eq_self, implies_true, f1, f9, f10, f29]) (fun b30 v30 f30 w30 => ?_)
       simp only [delL_cons, delL_nil, eqn_self, cnd_true, cnd_false, off_cons, off_nil, f1, f9, f10, f29] at f30
       simp -dsimp only [go_sem, gS, f1, f9, f10, f29, f30]
       have hacc0 : AccN H [] [pcV own (.own b30 v30), pcV [] (.own b9 v9)] (upd (upd H b9 (.arr 3 1 v9 [])) b30 (.arr 3 1 v30 (own.map (.int .i64)))) := ((AccN.none H []).new (E := 3) (sz := 1) (xs := []) (by simp only [hpS, eq_self, implies_true, ]) (by simp only [hpS, eq_self, implies_true, f1, f9, f29, f30]) w9).new (by simp only [hpS, eq_self, implies_true, ]) (upd_eq_none.2 ⟨eqn_false (by simp only [hpS, eq_self, implies_true, f1, f9, f29, f30]), by simp only [hpS, eq_self, implies_true, f1, f9, f29, f30]⟩) w30
       refine svc_loop (X := Nat × List Int × A × Heap) (fun u => [(3, .own b9 v9), (4, u.2.2.1), (48, .d (.slice (Fl.ds gs))), (49, .d (.int .i64 gs.length)), (50, .d (.int .i64 u.1))])
        (fun u G => G = hp u.2.2.2 [] ∧ AccN H [] [pcV u.2.1 u.2.2.1, pcV [] (.own b9 v9)] u.2.2.2 ∧ u.1 ≤ gs.length ∧ u.2.1.length ≤ 32769 + u.1 * 512 ∧ (∀ v ∈ u.2.1, numIn n v) ∧ u.2.1.foldl vStep [] = fVarss (gs.take u.1) (own.foldl vStep []))
        (fun u => gs.length - u.1) (0, own, .own b30 v30, (upd (upd H b9 (.arr 3 1 v9 [])) b30 (.arr 3 1 v30 (own.map (.int .i64))))) _ ⟨rfl, hacc0, Nat.zero_le _, hol, hown, rfl⟩ (by simp -dsimp only [go_sem, gS, Fl.ds_map, List.length_map]) (by rw [hp_base (by simp only [hpS, eq_self, implies_true, ]), hp_base (by simp only [hpS, eq_self, implies_true, f1, f9, f29, f30]), eo]; exact (leH_hp (by simp only [hpS, eq_self, implies_true, f1, f9, f29, f30, setL_cons, setL_nil, List.map_cons, List.map_nil]) (by simp only [hpS, eq_self, implies_true, f1, f9, f29, f30, setL_cons, setL_nil, List.map_cons, List.map_nil]))) ?_
       exact key
      ·have e4 : k ≠ 11 := of_decide_eq_false g4
       simp -dsimp only [go_sem, gS, g1, g2, g3, g4, f1, f9, f10]
       refine gif_split (fun g5 => ?_) (fun g5 => ?_)
       ·have e5 : k = 5 := of_decide_eq_true g5
        have eo : own = x :: xs := by rw [← heq, if_neg e1, if_neg e2, if_neg e3, if_neg e4, if_pos e5]
        simp -dsimp only [go_sem, gS, g1, g2, g3, g4, g5, f1, f9, f10]
        refine newV_hp (fun b36 v36 f36 w36 => ?_)
        simp only [off_cons, off_nil] at f36
        simp -dsimp only [go_sem, gS, f1, f9, f10, f36]
        refine growV_hp (b0 := b10) (by simp only [hpS, eq_self, implies_true, f1, f9, f10, f36]) (by simp only [hpS, eq_self, implies_true, f1, f9, f10, f36]) (fun b37 v37 f37 w37 => ?_)
        simp only [delL_cons, delL_nil, eqn_self, cnd_true, cnd_false, off_cons, off_nil, f1, f9, f10, f36] at f37
        simp -dsimp only [go_sem, gS, f1, f9, f10, f36, f37]
        refine andK_split (by omega) ?_
        refine growV_hp (b0 := b37) (by simp only [hpS, eq_self, implies_true, f1, f9, f10, f36, f37]) (by simp only [hpS, eq_self, implies_true, f1, f9, f10, f36, f37]) (fun b40 v40 f40 w40 => ?_)
        simp only [delL_cons, delL_nil, eqn_self, cnd_true, cnd_false, off_cons, off_nil, f1, f9, f10, f36, f37] at f40
        simp -dsimp only [go_sem, gS, f1, f9, f10, f36, f37, f40]
        have hacc0 : AccN H [] [pcV own (.own b40 v40), pcV [] (.own b9 v9)] (upd (upd H b9 (.arr 3 1 v9 [])) b40 (.arr 3 1 v40 (own.map (.int .i64)))) := ((AccN.none H []).new (E := 3) (sz := 1) (xs := []) (by simp only [hpS, eq_self, implies_true, ]) (by simp only [hpS, eq_self, implies_true, f1, f9, f36, f40]) w9).new (by simp only [hpS, eq_self, implies_true, ]) (upd_eq_none.2 ⟨eqn_false (by simp only [hpS, eq_self, implies_true, f1, f9, f36, f40]), by simp only [hpS, eq_self, implies_true, f1, f9, f36, f40]⟩) w40
        refine svc_loop (X := Nat × List Int × A × Heap) (fun u => [(3, .own b9 v9), (4, u.2.2.1), (48, .d (.slice (Fl.ds gs))), (49, .d (.int .i64 gs.length)), (50, .d (.int .i64 u.1))])
         (fun u G => G = hp u.2.2.2 [] ∧ AccN H [] [pcV u.2.1 u.2.2.1, pcV [] (.own b9 v9)] u.2.2.2 ∧ u.1 ≤ gs.length ∧ u.2.1.length ≤ 32769 + u.1 * 512 ∧ (∀ v ∈ u.2.1, numIn n v) ∧ u.2.1.foldl vStep [] = fVarss (gs.take u.1) (own.foldl vStep []))
         (fun u => gs.length - u.1) (0, own, .own b40 v40, (upd (upd H b9 (.arr 3 1 v9 [])) b40 (.arr 3 1 v40 (own.map (.int .i64))))) _ ⟨rfl, hacc0, Nat.zero_le _, hol, hown, rfl⟩ (by simp -dsimp only [go_sem, gS, Fl.ds_map, List.length_map]) (by rw [hp_base (by simp only [hpS, eq_self, implies_true, ]), hp_base (by simp only [hpS, eq_self, implies_true, f1, f9, f36, f40]), eo]; exact (leH_hp (by simp only [hpS, eq_self, implies_true, f1, f9, f36, f40, setL_cons, setL_nil, List.map_cons, List.map_nil]) (by simp only [hpS, eq_self, implies_true, f1, f9, f36, f40, setL_cons, setL_nil, List.map_cons, List.map_nil]))) ?_
        exact key
       ·have e5 : k ≠ 5 := of_decide_eq_false g5
        simp -dsimp only [go_sem, gS, g1, g2, g3, g4, g5, f1, f9, f10]
        refine gif_split (fun g6 => ?_) (fun g6 => ?_)
        ·have e6 : k = 6 := of_decide_eq_true g6
         have eo : own = xs := by rw [← heq, if_neg e1, if_neg e2, if_neg e3, if_neg e4, if_neg e5, if_pos e6]
         simp -dsimp only [go_sem, gS, g1, g2, g3, g4, g5, g6, f1, f9, f10]
         refine andK_split (by omega) ?_
         refine growV_hp (b0 := b10) (by simp only [hpS, eq_self, implies_true, f1, f9, f10]) (by simp only [hpS, eq_self, implies_true, f1, f9, f10]) (fun b46 v46 f46 w46 => ?_)
         simp only [delL_cons, delL_nil, eqn_self, cnd_true, cnd_false, off_cons, off_nil, f1, f9, f10] at f46
         simp -dsimp only [go_sem, gS, f1, f9, f10, f46]
         have hacc0 : AccN H [] [pcV own (.own b46 v46), pcV [] (.own b9 v9)] (upd (upd H b9 (.arr 3 1 v9 [])) b46 (.arr 3 1 v46 (own.map (.int .i64)))) := ((AccN.none H []).new (E := 3) (sz := 1) (xs := []) (by simp only [hpS, eq_self, implies_true, ]) (by simp only [hpS, eq_self, implies_true, f1, f9, f46]) w9).new (by simp only [hpS, eq_self, implies_true, ]) (upd_eq_none.2 ⟨eqn_false (by simp only [hpS, eq_self, implies_true, f1, f9, f46]), by simp only [hpS, eq_self, implies_true, f1, f9, f46]⟩) w46
         refine svc_loop (X := Nat × List Int × A × Heap) (fun u => [(3, .own b9 v9), (4, u.2.2.1), (48, .d (.slice (Fl.ds gs))), (49, .d (.int .i64 gs.length)), (50, .d (.int .i64 u.1))])
          (fun u G => G = hp u.2.2.2 [] ∧ AccN H [] [pcV u.2.1 u.2.2.1, pcV [] (.own b9 v9)] u.2.2.2 ∧ u.1 ≤ gs.length ∧ u.2.1.length ≤ 32769 + u.1 * 512 ∧ (∀ v ∈ u.2.1, numIn n v) ∧ u.2.1.foldl vStep [] = fVarss (gs.take u.1) (own.foldl vStep []))
          (fun u => gs.length - u.1) (0, own, .own b46 v46, (upd (upd H b9 (.arr 3 1 v9 [])) b46 (.arr 3 1 v46 (own.map (.int .i64))))) _ ⟨rfl, hacc0, Nat.zero_le _, hol, hown, rfl⟩ (by simp -dsimp only [go_sem, gS, Fl.ds_map, List.length_map]) (by rw [hp_base (by simp only [hpS, eq_self, implies_true, ]), hp_base (by simp only [hpS, eq_self, implies_true, f1, f9, f46]), eo]; exact (leH_hp (by simp only [hpS, eq_self, implies_true, f1, f9, f46, setL_cons, setL_nil, List.map_cons, List.map_nil]) (by simp only [hpS, eq_self, implies_true, f1, f9, f46, setL_cons, setL_nil, List.map_cons, List.map_nil]))) ?_
         exact key
        ·have e6 : k ≠ 6 := of_decide_eq_false g6
         have eo : own = [] := by rw [← heq, if_neg e1, if_neg e2, if_neg e3, if_neg e4, if_neg e5, if_neg e6]
         simp -dsimp only [go_sem, gS, g1, g2, g3, g4, g5, g6, f1, f9, f10]
         have hacc0 : AccN H [] [pcV own (.own b10 v10), pcV [] (.own b9 v9)] (upd (upd H b9 (.arr 3 1 v9 [])) b10 (.arr 3 1 v10 (own.map (.int .i64)))) := ((AccN.none H []).new (E := 3) (sz := 1) (xs := []) (by simp only [hpS, eq_self, implies_true, ]) (by simp only [hpS, eq_self, implies_true, f1, f9, f10]) w9).new (by simp only [hpS, eq_self, implies_true, ]) (upd_eq_none.2 ⟨eqn_false (by simp only [hpS, eq_self, implies_true, f1, f9, f10]), by simp only [hpS, eq_self, implies_true, f1, f9, f10]⟩) w10
         refine svc_loop (X := Nat × List Int × A × Heap) (fun u => [(3, .own b9 v9), (4, u.2.2.1), (48, .d (.slice (Fl.ds gs))), (49, .d (.int .i64 gs.length)), (50, .d (.int .i64 u.1))])
          (fun u G => G = hp u.2.2.2 [] ∧ AccN H [] [pcV u.2.1 u.2.2.1, pcV [] (.own b9 v9)] u.2.2.2 ∧ u.1 ≤ gs.length ∧ u.2.1.length ≤ 32769 + u.1 * 512 ∧ (∀ v ∈ u.2.1, numIn n v) ∧ u.2.1.foldl vStep [] = fVarss (gs.take u.1) (own.foldl vStep []))
          (fun u => gs.length - u.1) (0, own, .own b10 v10, (upd (upd H b9 (.arr 3 1 v9 [])) b10 (.arr 3 1 v10 (own.map (.int .i64))))) _ ⟨rfl, hacc0, Nat.zero_le _, hol, hown, rfl⟩ (by simp -dsimp only [go_sem, gS, Fl.ds_map, List.length_map]) (by rw [hp_base (by simp only [hpS, eq_self, implies_true, ]), hp_base (by simp only [hpS, eq_self, implies_true, f1, f9, f10]), eo]; exact (leH_hp (by simp only [hpS, eq_self, implies_true, f1, f9, f10, setL_cons, setL_nil, List.map_cons, List.map_nil]) (by simp only [hpS, eq_self, implies_true, f1, f9, f10, setL_cons, setL_nil, List.map_cons, List.map_nil]))) ?_
         exact key
  case rest =>
   rintro ⟨j, al, a, R⟩ G ⟨hG, hacc, hj, hal, hin, hrun⟩
   simp only at hG hacc hj hal hin hrun
   rw [hG]
   have hok0 : okK [] R [] := by simp only [hpS, eq_self, implies_true, ]
   simp -dsimp only [go_sem, gS, Fl.ds_map]
   refine gif_split (fun q1 => ?_) (fun q1 => ?_)
   ·have q1' : j < gs.length := by have := of_decide_eq_true q1; omega
    obtain ⟨g, hg⟩ := list_at q1'
    have hgm := List.mem_of_getElem? hg
    have hgok := Fl.okGs_iff.1 hgs g hgm
    have hnums := (Nums.nil n).vars hgok
    have ht : gs.take (j + 1) = gs.take j ++ [g] := by rw [List.take_succ, hg]; rfl
    have hw := wrapN (k := j) (by omega)
    have ihg := fun H K h => vars05_ok (eb := eb) hn m g (by have := Fl.nodess_mem hgm; omega) hgok H K h
    have hstep : (al ++ fVars g []).foldl vStep [] = fVarss (gs.take (j + 1)) (own.foldl vStep []) := by
     rw [List.foldl_append, hrun, fVars_fold, ht, fVarss_append]
     rfl
    generalize fVars g [] = vs at hnums ihg hstep
    have hvl := hnums.len
    obtain ⟨gk, gx, gy, gi, ⟨gcn, gca⟩, ⟨gpn, gpa⟩, gxs, ggs⟩ := g
    simp -dsimp only [go_sem, gS, q1, hg, List.getElem?_map, Option.map_some, Fl.d, Fl.cs]
    refine newK_hp (fun b6 f6 => ?_)
    simp only [off_cons, off_nil] at f6
    simp -dsimp only [go_sem, gS, f6]
    refine ihg _ _ ?_
    simp -dsimp only [go_sem, gS, f6]
    refine AccN.appTo (pre := []) (p := pcV al a) (post := [pcV [] (.own b9 v9)]) hacc (by simp only [hpS, eq_self, implies_true, f6]) (by simp only [hpS, eq_self, implies_true, ]) (by simp only [List.length_map]; omega) (fun a2 R2 hacc2 hn2 => ?_)
    have k6 := hn2 b6 (by simp only [hpS, eq_self, implies_true, f6]) f6
    have hacc3 : AccN H [] [pcV (al ++ vs) a2, pcV [] (.own b9 v9)] R2 := by simp only [pcV, List.map_append]; exact hacc2
    simp -dsimp only [go_sem, gS, f6, k6, hw]
    exact roundQ_next (j + 1, al ++ vs, a2, R2) _ ⟨rfl, hacc3, q1', by simp only [List.length_append]; omega, fun v hv => (List.mem_append.1 hv).elim (hin v) (hnums.mem v), hstep⟩ (by simp only; omega) (by simp -dsimp only [go_sem, gS, Fl.ds_map]) (leH_hp (by simp only [hpS, eq_self, implies_true, f6, k6]) (by simp only [hpS, eq_self, implies_true, f6, k6]))
   ·rw [List.take_of_length_le (by have := of_decide_eq_false q1; omega)] at hrun
    rw [← hrun] at hK
    simp -dsimp only [go_sem, gS, q1]
    refine andK_split (AccN.lenable (pre := []) (p := pcV al a) (post := [pcV [] (.own b9 v9)]) hacc (by kernel_rfl)) ?_
    rw [AccN.len (pre := []) (p := pcV al a) (post := [pcV [] (.own b9 v9)]) hacc hok0]
    simp only [List.length_map]
    simp -dsimp only [go_sem, gS]
    refine svc_deep 59 (by decide) ?_
    simp -dsimp only [go_sem, gS]
    refine AccN.deep (pre := []) (p := pcV al a) (post := [pcV [] (.own b9 v9)]) hacc hok0 (fun R4 hacc4 hn4 => ?_)
    simp -dsimp only [go_sem, gS]
    refine svc_loop (X := Nat × List Int × Nat × Value × Heap) (fun u => [(3, .own u.2.2.1 u.2.2.2.1), (59, .d (.slice (al.map (.int .i64)))), (60, .d (.int .i64 al.length)), (61, .d (.int .i64 u.1))])
     (fun u G => G = hp u.2.2.2.2 [] ∧ AccN H [] [pcV u.2.1 (.own u.2.2.1 u.2.2.2.1)] u.2.2.2.2 ∧ u.1 ≤ al.length ∧ Nums n u.2.1 ∧ (al.drop u.1).foldl vStep u.2.1 = al.foldl vStep [])
     (fun u => al.length - u.1) (0, [], b9, v9, R4) _ ⟨rfl, hacc4, Nat.zero_le _, Nums.nil n, rfl⟩ (by simp -dsimp only [go_sem, gS]) (.refl _) ?_
    rintro ⟨i, out, b, v, R⟩ G ⟨hG, hacc, hi, hnum, hrun⟩
    simp only at hG hacc hi hnum hrun
    rw [hG]
    have hol2 := hnum.len
    have hok0 : okK [] R [] := by simp only [hpS, eq_self, implies_true, ]
    have hw := wrapN (k := i) (by omega)
    obtain ⟨hb, hv⟩ : R b = some (.arr 3 1 v (out.map (.int .i64))) ∧ v.ownBlock = some b := by
     rcases hacc.mid (pre := []) with ⟨_, e⟩ | ⟨b', v', e, _, _, h3, h4⟩
     ·cases e
     ·cases e; exact ⟨h4, h3⟩
    simp -dsimp only [go_sem, gS]
    refine gif_split (fun q2 => ?_) (fun q2 => ?_)
    ·have q2' : i < al.length := by have := of_decide_eq_true q2; omega
     obtain ⟨u, hu⟩ := list_at q2'
     have hd : al.drop i = u :: al.drop (i + 1) := by rw [List.drop_eq_getElem_cons q2']; rw [List.getElem?_eq_getElem q2'] at hu; cases hu; rfl
     rw [hd, List.foldl_cons] at hrun
     simp -dsimp only [go_sem, gS, q2, hu, List.getElem?_map, Option.map_some]
     refine inV_ok _ b v out u (by rw [hp_nil_at]; exact hb) hv (by omega) _ ?_
     by_cases hm : u ∈ out
     ·rw [vStep, if_pos hm] at hrun
      simp -dsimp only [go_sem, gS, decide_eq_true hm, hw]
      exact roundQ_next (i + 1, out, b, v, R) _ ⟨rfl, hacc, q2', hnum, hrun⟩ (by simp only; omega) (by simp -dsimp only [go_sem, gS]) (.refl _)
     ·have hnum2 := hnum.step (hin u (List.mem_of_getElem? hu))
      rw [vStep, if_neg hm] at hrun hnum2
      generalize A.own b v = a at hacc ⊢
      simp -dsimp only [go_sem, gS, decide_eq_false hm, hw]
      refine newV_hp (fun b71 v71 f71 w71 => ?_)
      simp only [off_cons, off_nil] at f71
      simp -dsimp only [go_sem, gS, f71]
      refine AccN.appTo (pre := []) (p := pcV out a) (post := []) hacc (by simp only [hpS, eq_self, implies_true, f71]) (by simp only [hpS, eq_self, implies_true, ]) (by simp only [List.length_map, List.length_cons, List.length_nil]; omega) (fun a2 R2 hacc2 hn2 => ?_)
      have k71 := hn2 b71 (by simp only [hpS, eq_self, implies_true, f71]) f71
      have hacc3 : AccN H [] [pcV (out ++ [u]) a2] R2 := by simp only [pcV, List.map_append, List.map_cons, List.map_nil]; exact hacc2
      obtain ⟨b', v', rfl⟩ : ∃ b' v', a2 = .own b' v' := by
       rcases hacc3.mid (pre := []) with ⟨e, _⟩ | ⟨b', v', e, _⟩
       ·simp [pcV] at e
       ·exact ⟨b', v', e⟩
      simp -dsimp only [go_sem, gS, f71, k71, hw]
      exact roundQ_next (i + 1, out ++ [u], b', v', R2) _ ⟨rfl, hacc3, q2', hnum2, hrun⟩ (by simp only; omega) (by simp -dsimp only [go_sem, gS]) (leH_hp (by simp only [hpS, eq_self, implies_true, f71, k71]) (by simp only [hpS, eq_self, implies_true, f71, k71]))
    ·rw [List.drop_eq_nil_of_le (by have := of_decide_eq_false q2; omega), List.foldl_nil] at hrun
     rw [← hrun] at hK
     simp -dsimp only [go_sem, gS, q2]
     refine retW_deep ?_
     refine AccN.deep (pre := []) (p := pcV out (.own b v)) (post := []) hacc hok0 (fun R5 hacc5 hn5 => ?_)
     exact retW_drop (G := H) (show LeH H (hp R5 []) from hacc5.le) (retW_is hK)
end Go.Aug

/- The program's comparison of flat goals. -/
namespace Go.Aug
open Go.Proofs
set_option maxRecDepth 100000
set_option linter.unusedSimpArgs false
attribute [local irreducible] hid andK letA onSome onVar onArr arrOnly onInt onBool onTup idxA ldV ldD addO appTo fillL slA srcK nilQ retW gif sgd sguard svc sops sdops sagain aopO aLoad aStore aBin aUn aConv aLen aIndexAddr aIndex aIndexAddrS aIndexS aSlice aAppend aBuild aBuildSlice aMakeSlice aField aFieldOf aCallOp deepK deepL frzM putE newK newV growV ACall roundQ thenQ inBlockQ sret cnd szs nilC onMap onRow aLookup aMapUpdate aMakeMap
attribute [local go_sem] Int.natCast_zero
set_option maxHeartbeats 2000000 in
theorem equalInts_ok {eb : EbG} (xs ys : List Int) (hx : xs.length ≤ 1048576) (hy : ys.length ≤ 1048576) (H : Heap) (K : A → Heap → Prop) (hK : K (.d (.bool (eqB xs ys))) H) :
  ACall Tryd.prog (seatV eb) 77 [.d (.slice (xs.map (.int .i64))), .d (.slice (ys.map (.int .i64)))] H K := by
 refine ACall.hp_start ?_
 refine ACall.by mixed fn77 (by simp) ?_
 conv in s77 => cbv
 refine svc_start ?_
 simp -dsimp only [go_sem, gS]
 refine gif_split (fun g1 => ?_) (fun g1 => ?_)
 ·have e : xs.length ≠ ys.length := by have h : ¬ (xs.length : Int) = ys.length := (by simpa using g1); omega
  rw [eqB_ne (fun h => e (by rw [h]))] at hK
  simp -dsimp only [go_sem, gS, g1]
  exact retW_is hK
 ·have e : xs.length = ys.length := by have h : (xs.length : Int) = ys.length := (by simpa using g1); omega
  simp -dsimp only [go_sem, gS, g1]
  refine svc_loop (X := Nat) (fun y => [(0, .d (.slice (xs.map (.int .i64)))), (1, .d (.slice (ys.map (.int .i64)))), (12, .d (.int .i64 xs.length)), (13, .d (.int .i64 y))])
   (fun y G => G = H ∧ y ≤ xs.length ∧ ∀ j < y, xs[j]? = ys[j]?) (fun y => xs.length - y) 0 H ⟨rfl, Nat.zero_le _, by simp⟩ (by simp -dsimp only [go_sem, gS]) (fun _ _ h => h) ?_
  rintro j G ⟨hG, hj, hs⟩
  subst hG
  simp -dsimp only [go_sem, gS]
  refine gif_split (fun q1 => ?_) (fun q1 => ?_)
  ·have q1' : j < xs.length := by have := of_decide_eq_true q1; omega
   obtain ⟨x, hx1⟩ := list_at q1'
   obtain ⟨y, hy1⟩ := list_at (show j < ys.length by omega)
   have hw := wrapN (k := j) (by omega)
   simp -dsimp only [go_sem, gS, q1, hx1, hy1]
   refine gif_split (fun q2 => ?_) (fun q2 => ?_)
   ·have e2 : x ≠ y := by simpa using q2
    rw [eqB_ne (list_differ (k := j) (by rw [hx1, hy1]; exact fun h => e2 (Option.some.inj h)))] at hK
    simp -dsimp only [go_sem, gS, q2]
    exact retW_is hK
   ·have e2 : x = y := by simpa using q2
    simp -dsimp only [go_sem, gS, q2, hw]
    refine roundQ_next (j + 1) G ⟨rfl, by omega, fun i hi => ?_⟩ (by omega) (by simp -dsimp only [go_sem, gS]) (fun _ _ h => h)
    rcases Nat.lt_succ_iff_lt_or_eq.1 hi with h | rfl
    ·exact hs i h
    ·rw [hx1, hy1, e2]
  ·have q1' : xs.length ≤ j := by have := of_decide_eq_false q1; omega
   rw [drop_all e q1' hs, eqB_self] at hK
   simp -dsimp only [go_sem, gS, q1]
   exact retW_is hK
set_option maxHeartbeats 4000000 in
theorem eqFunc_ok {eb : EbG} (gs gs' : List Fl) (hl : gs.length ≤ 1099511627776) (hf : Fl.fits gs') (h : ∀ g ∈ gs, ∀ g' : Fl, g'.fit → ∀ (H : Heap) (K : A → Heap → Prop), K (.d (.bool (eqB g g'))) H → ACall Tryd.prog (seatV eb) 30 [.d g.d, .d g'.d] H K) (H : Heap) (K : A → Heap → Prop) (hK : K (.d (.bool (eqB gs gs'))) H) :
  ACall Tryd.prog (seatV eb) 78 [.d (.slice (gs.map Fl.d)), .d (.slice (gs'.map Fl.d)), .func 30 []] H K := by
 refine ACall.hp_start ?_
 refine ACall.by mixed fn78 (by simp) ?_
 conv in s78 => cbv
 refine svc_start ?_
 simp -dsimp only [go_sem, gS]
 refine gif_split (fun g1 => ?_) (fun g1 => ?_)
 ·have e : gs.length ≠ gs'.length := by have h : ¬ (gs.length : Int) = gs'.length := (by simpa using g1); omega
  rw [eqB_ne (fun h => e (by rw [h]))] at hK
  simp -dsimp only [go_sem, gS, g1]
  exact retW_is hK
 ·have e : gs.length = gs'.length := by have h : (gs.length : Int) = gs'.length := (by simpa using g1); omega
  simp -dsimp only [go_sem, gS, g1]
  refine svc_loop (X := Nat) (fun y => [(1, .d (.slice (gs'.map Fl.d))), (2, .func 30 []), (15, .d (.slice (gs.map Fl.d))), (16, .d (.int .i64 gs.length)), (17, .d (.int .i64 y))])
   (fun y G => G = hp H [] ∧ y ≤ gs.length ∧ ∀ j < y, gs[j]? = gs'[j]?) (fun y => gs.length - y) 0 _ ⟨rfl, Nat.zero_le _, by simp⟩ (by simp -dsimp only [go_sem, gS]) (fun _ _ h => h) ?_
  rintro j G ⟨hG, hj, hs⟩
  rw [hG]
  simp -dsimp only [go_sem, gS]
  refine gif_split (fun q1 => ?_) (fun q1 => ?_)
  ·have q1' : j < gs.length := by have := of_decide_eq_true q1; omega
   obtain ⟨g, hx1⟩ := list_at q1'
   obtain ⟨g', hy1⟩ := list_at (show j < gs'.length by omega)
   have hw := wrapN (k := j) (by omega)
   have hg := h g (List.mem_of_getElem? hx1) g' (Fl.fits_mem hf _ (List.mem_of_getElem? hy1))
   have hc : callable Tryd.prog 30 = true := by kernel_rfl
   obtain ⟨gk, gx, gy, gi, ⟨gcn, gca⟩, ⟨gpn, gpa⟩, gxs, ggs⟩ := g
   obtain ⟨gk', gx', gy', gi', ⟨gcn', gca'⟩, ⟨gpn', gpa'⟩, gxs', ggs'⟩ := g'
   simp -dsimp only [go_sem, gS, q1, hx1, hy1, Fl.d, Fl.cs]
   refine newK_hp (fun b8 f8 => ?_)
   simp only [off_cons, off_nil] at f8
   simp -dsimp only [go_sem, gS, f8, hx1, hy1, Fl.d, Fl.cs]
   refine newK_hp (fun b9 f9 => ?_)
   simp only [off_cons, off_nil] at f9
   simp -dsimp only [go_sem, gS, f8, f9, hc, List.append_nil]
   refine hg _ _ ?_
   simp -dsimp only [go_sem, gS, f8, f9, hw]
   refine gif_split (fun q2 => ?_) (fun q2 => ?_)
   ·have e2 : Fl.mk gk gx gy gi ⟨gcn, gca⟩ ⟨gpn, gpa⟩ gxs ggs ≠ Fl.mk gk' gx' gy' gi' ⟨gcn', gca'⟩ ⟨gpn', gpa'⟩ gxs' ggs' := fun h => by rw [h, eqB_self] at q2; simp at q2
    rw [eqB_ne (list_differ (k := j) (by rw [hx1, hy1]; exact fun h => e2 (Option.some.inj h)))] at hK
    simp -dsimp only [go_sem, gS, q2, f8, f9]
    exact retW_drop (G := H) (leH_hp0 (by simp only [hpS, eq_self, implies_true, f8, f9])) (retW_is hK)
   ·have e2 := eqB_iff.1 (show eqB (Fl.mk gk gx gy gi ⟨gcn, gca⟩ ⟨gpn, gpa⟩ gxs ggs) (Fl.mk gk' gx' gy' gi' ⟨gcn', gca'⟩ ⟨gpn', gpa'⟩ gxs' ggs') = true by simpa using q2)
    simp -dsimp only [go_sem, gS, q2, hw, f8, f9]
    refine roundQ_next (j + 1) _ ⟨rfl, by omega, fun i hi => ?_⟩ (by omega) (by simp -dsimp only [go_sem, gS]) (leH_hp0 (by simp only [hpS, eq_self, implies_true, f8, f9]))
    rcases Nat.lt_succ_iff_lt_or_eq.1 hi with h | rfl
    ·exact hs i h
    ·rw [hx1, hy1, e2]
  ·have q1' : gs.length ≤ j := by have := of_decide_eq_false q1; omega
   rw [drop_all e q1' hs, eqB_self] at hK
   simp -dsimp only [go_sem, gS, q1]
   exact retW_is hK
set_option maxHeartbeats 8000000 in
theorem flatSame_ok {eb : EbG} : ∀ (m : Nat) (f g : Fl), f.nodes ≤ m → f.fit → g.fit → ∀ (H : Heap) (K : A → Heap → Prop), K (.d (.bool (eqB f g))) H → ACall Tryd.prog (seatV eb) 30 [.d f.d, .d g.d] H K
 | 0, .mk k x y i c p xs gs, g, hm, _, _, _, _, _ => by simp only [Fl.nodes] at hm; omega
 | m + 1, .mk k x y i ⟨cn, ca⟩ ⟨pn, pa⟩ xs gs, .mk k' x' y' i' ⟨cn', ca'⟩ ⟨pn', pa'⟩ xs' gs', hm, hf, hg, H, K, hK => by
  have hinj : Fl.mk k x y i ⟨cn, ca⟩ ⟨pn, pa⟩ xs gs = Fl.mk k' x' y' i' ⟨cn', ca'⟩ ⟨pn', pa'⟩ xs' gs' → k = k' ∧ x = x' ∧ y = y' ∧ i = i' ∧ (cn = cn' ∧ ca = ca') ∧ (pn = pn' ∧ pa = pa') ∧ xs = xs' ∧ gs = gs' := fun h => by simpa only [Fl.mk.injEq, Ky.mk.injEq] using h
  simp only [Fl.nodes] at hm
  obtain ⟨hx, hgl, hgs⟩ := hf
  obtain ⟨hx', hgl', hgs'⟩ := hg
  refine ACall.hp_start ?_
  refine ACall.by mixed fn30 (by simp) ?_
  conv in s30 => cbv
  refine svc_start ?_
  simp -dsimp only [go_sem, gS, Fl.d, Fl.cs, Fl.ds_map]
  refine newK_hp (fun b2 f2 => ?_)
  simp only [off_cons, off_nil] at f2
  simp -dsimp only [go_sem, gS, f2]
  refine newK_hp (fun b3 f3 => ?_)
  simp only [off_cons, off_nil] at f3
  simp -dsimp only [go_sem, gS, f2, f3]
  refine gif_split (fun g1 => ?_) (fun g1 => ?_)
  rotate_left
  ·have e : k ≠ k' := by simpa using g1
   rw [eqB_ne (fun h => e (hinj h).1)] at hK
   simp -dsimp only [go_sem, gS, g1, f2, f3]
   exact retW_drop (G := H) (leH_hp0 (by simp only [hpS, eq_self, implies_true, f2, f3])) (retW_is hK)
  have e1 : k = k' := by simpa using g1
  simp -dsimp only [go_sem, gS, g1, f2, f3]
  refine gif_split (fun g2 => ?_) (fun g2 => ?_)
  rotate_left
  ·have e : x ≠ x' := by simpa using g2
   rw [eqB_ne (fun h => e (hinj h).2.1)] at hK
   simp -dsimp only [go_sem, gS, g1, g2, f2, f3]
   exact retW_drop (G := H) (leH_hp0 (by simp only [hpS, eq_self, implies_true, f2, f3])) (retW_is hK)
  have e2 : x = x' := by simpa using g2
  simp -dsimp only [go_sem, gS, g1, g2, f2, f3]
  refine gif_split (fun g3 => ?_) (fun g3 => ?_)
  rotate_left
  ·have e : y ≠ y' := by simpa using g3
   rw [eqB_ne (fun h => e (hinj h).2.2.1)] at hK
   simp -dsimp only [go_sem, gS, g1, g2, g3, f2, f3]
   exact retW_drop (G := H) (leH_hp0 (by simp only [hpS, eq_self, implies_true, f2, f3])) (retW_is hK)
  have e3 : y = y' := by simpa using g3
  simp -dsimp only [go_sem, gS, g1, g2, g3, f2, f3]
  refine gif_split (fun g4 => ?_) (fun g4 => ?_)
  rotate_left
  ·have e : i ≠ i' := by simpa using g4
   rw [eqB_ne (fun h => e (hinj h).2.2.2.1)] at hK
   simp -dsimp only [go_sem, gS, g1, g2, g3, g4, f2, f3]
   exact retW_drop (G := H) (leH_hp0 (by simp only [hpS, eq_self, implies_true, f2, f3])) (retW_is hK)
  have e4 : i = i' := by simpa using g4
  simp -dsimp only [go_sem, gS, g1, g2, g3, g4, f2, f3]
  refine gif_split (fun g5 => ?_) (fun g5 => ?_)
  rotate_left
  ·have e : ¬ (cn = cn' ∧ ca = ca') := by rintro ⟨rfl, rfl⟩; simp at g5
   rw [eqB_ne (fun h => e (hinj h).2.2.2.2.1)] at hK
   simp -dsimp only [go_sem, gS, g1, g2, g3, g4, g5, f2, f3]
   exact retW_drop (G := H) (leH_hp0 (by simp only [hpS, eq_self, implies_true, f2, f3])) (retW_is hK)
  have e5 : (cn = cn' ∧ ca = ca') := by simpa using g5
  simp -dsimp only [go_sem, gS, g1, g2, g3, g4, g5, f2, f3]
  refine gif_split (fun g6 => ?_) (fun g6 => ?_)
  rotate_left
  ·have e : ¬ (pn = pn' ∧ pa = pa') := by rintro ⟨rfl, rfl⟩; simp at g6
   rw [eqB_ne (fun h => e (hinj h).2.2.2.2.2.1)] at hK
   simp -dsimp only [go_sem, gS, g1, g2, g3, g4, g5, g6, f2, f3]
   exact retW_drop (G := H) (leH_hp0 (by simp only [hpS, eq_self, implies_true, f2, f3])) (retW_is hK)
  have e6 : (pn = pn' ∧ pa = pa') := by simpa using g6
  simp -dsimp only [go_sem, gS, g1, g2, g3, g4, g5, g6, f2, f3]
  refine equalInts_ok xs xs' hx hx' _ _ ?_
  simp -dsimp only [go_sem, gS, g1, g2, g3, g4, g5, g6, f2, f3]
  refine gif_split (fun g7 => ?_) (fun g7 => ?_)
  rotate_left
  ·have e : ¬ xs = xs' := fun h => by rw [h, eqB_self] at g7; simp at g7
   rw [eqB_ne (fun h => e (hinj h).2.2.2.2.2.2.1)] at hK
   simp -dsimp only [go_sem, gS, g7, g1, g2, g3, g4, g5, g6, f2, f3]
   exact retW_drop (G := H) (leH_hp0 (by simp only [hpS, eq_self, implies_true, f2, f3])) (retW_is hK)
  have e7 : xs = xs' := eqB_iff.1 g7
  simp -dsimp only [go_sem, gS, g7, g1, g2, g3, g4, g5, g6, f2, f3]
  refine eqFunc_ok gs gs' hgl hgs' (fun g hg g' hg' => flatSame_ok m g g' (by have := Fl.nodess_mem hg; omega) (Fl.fits_mem hgs g hg) hg') _ _ ?_
  simp -dsimp only [go_sem, gS, g7, g1, g2, g3, g4, g5, g6, f2, f3]
  obtain ⟨rfl, rfl⟩ := e5
  obtain ⟨rfl, rfl⟩ := e6
  subst e1 e2 e3 e4 e7
  have e9 : eqB (Fl.mk k x y i ⟨cn, ca⟩ ⟨pn, pa⟩ xs gs) (Fl.mk k x y i ⟨cn, ca⟩ ⟨pn, pa⟩ xs gs') = eqB gs gs' := by
   by_cases h : gs = gs'
   ·rw [h, eqB_self, eqB_self]
   ·rw [eqB_ne h, eqB_ne (fun h' => h (hinj h').2.2.2.2.2.2.2)]
  rw [e9] at hK
  exact retW_drop (G := H) (leH_hp0 (by simp only [hpS, eq_self, implies_true, f2, f3])) (retW_is hK)
end Go.Aug
