/- The contracts of comparisons of a thing with itself; conditions stand in each contract. -/
import Derived.Test.YthldjffimcngaaaGreatDoorReaderFour
import Derived.Test.YthldjffimcngaaaGreatDoorGrammarOne
set_option linter.all false
set_option linter.unusedVariables false
set_option linter.unusedSimpArgs false
set_option linter.unusedSectionVars false

/- Walks of SmA. -/
namespace Go.Aug
open Go.Proofs
set_option maxRecDepth 100000
set_option linter.unusedSimpArgs false
attribute [local irreducible] hid andK letA onSome onVar onArr arrOnly onInt onBool onTup idxA ldV ldD addO ofPart appTo fillL slA srcK nilQ retW gif sgd sguard svc sops sdops sagain aopO aLoad aStore aBin aUn aConv aLen aIndexAddr aIndex aIndexAddrS aIndexS aSlice aAppend aBuild aBuildSlice aMakeSlice aField aFieldOf aCallOp deepK deepL frzM putE newK newV growV ACall roundQ thenQ inBlockQ sret cnd szs nilC aLookup aMapUpdate aMakeMap
attribute [local go_sem] Int.natCast_zero
theorem sameTerms_row {eb : EbG} (ts : List Tm) (hl : ts.length ≤ 1048576) (h : ∀ t ∈ ts, ∀ (H : Heap) (K : A → Heap → Prop), K (.d (.bool true)) H → ACall Tryz.prog (seatV eb) 23 [.d t.d, .d t.d] H K) (H : Heap) (K : A → Heap → Prop) (hK : K (.d (.bool true)) H) :
  ACall Tryz.prog (seatV eb) 56 [.d (.slice (ts.map Tm.d)), .d (.slice (ts.map Tm.d))] H K := by
 refine ACall.by mixed fn56 (by simp) ?_
 conv in s56 => cbv
 refine svc_start ?_
 simp -dsimp only [go_sem, gS, decide_true]
 refine svc_loop (X := Nat) (fun j => [(0, .d (.slice (ts.map Tm.d))), (1, .d (.slice (ts.map Tm.d))), (12, .d (.int .i64 ts.length)), (13, .d (.int .i64 j))]) (fun j G => G = H ∧ j ≤ ts.length) (fun j => ts.length - j) 0 _ ⟨rfl, Nat.zero_le _⟩ (by simp -dsimp only [go_sem, gS]) (fun _ _ h => h) ?_
 rintro j G ⟨hG, hj⟩
 subst hG
 simp -dsimp only [go_sem, gS]
 refine gif_split (fun q1 => ?_) (fun q1 => ?_)
 ·have q1' : j < ts.length := by have := of_decide_eq_true q1; omega
  obtain ⟨t, hx⟩ := list_at q1'
  have hw := wrapN (k := j) (by omega)
  have ht := h t (List.mem_of_getElem? hx)
  obtain ⟨tk, tn, ti, ta⟩ := t
  simp -dsimp only [go_sem, gS, q1, hx, Tm.d, Tm.cs]
  refine ht _ _ ?_
  simp -dsimp only [go_sem, gS, hw]
  refine roundQ_next (j + 1) _ ⟨rfl, q1'⟩ (by omega) (by simp -dsimp only [go_sem, gS]) (fun _ _ h => h)
 ·simp -dsimp only [go_sem, gS, q1]
  exact retW_is hK
theorem sameTypes_row {eb : EbG} (ts : List Ty) (hl : ts.length ≤ 1048576) (h : ∀ t ∈ ts, ∀ (H : Heap) (K : A → Heap → Prop), K (.d (.bool true)) H → ACall Tryz.prog (seatV eb) 26 [.d t.d, .d t.d] H K) (H : Heap) (K : A → Heap → Prop) (hK : K (.d (.bool true)) H) :
  ACall Tryz.prog (seatV eb) 64 [.d (.slice (ts.map Ty.d)), .d (.slice (ts.map Ty.d))] H K := by
 refine ACall.by mixed fn64 (by simp) ?_
 conv in s64 => cbv
 refine svc_start ?_
 simp -dsimp only [go_sem, gS, decide_true]
 refine svc_loop (X := Nat) (fun j => [(0, .d (.slice (ts.map Ty.d))), (1, .d (.slice (ts.map Ty.d))), (12, .d (.int .i64 ts.length)), (13, .d (.int .i64 j))]) (fun j G => G = H ∧ j ≤ ts.length) (fun j => ts.length - j) 0 _ ⟨rfl, Nat.zero_le _⟩ (by simp -dsimp only [go_sem, gS]) (fun _ _ h => h) ?_
 rintro j G ⟨hG, hj⟩
 subst hG
 simp -dsimp only [go_sem, gS]
 refine gif_split (fun q1 => ?_) (fun q1 => ?_)
 ·have q1' : j < ts.length := by have := of_decide_eq_true q1; omega
  obtain ⟨t, hx⟩ := list_at q1'
  have hw := wrapN (k := j) (by omega)
  have ht := h t (List.mem_of_getElem? hx)
  obtain ⟨tv, tn, ta⟩ := t
  simp -dsimp only [go_sem, gS, q1, hx, Ty.d, Ty.cs]
  refine ht _ _ ?_
  simp -dsimp only [go_sem, gS, hw]
  refine roundQ_next (j + 1) _ ⟨rfl, q1'⟩ (by omega) (by simp -dsimp only [go_sem, gS]) (fun _ _ h => h)
 ·simp -dsimp only [go_sem, gS, q1]
  exact retW_is hK
theorem sameTerm_self {eb : EbG} : ∀ (m : Nat) (t : Tm), t.nodes ≤ m → t.small → ∀ (H : Heap) (K : A → Heap → Prop), K (.d (.bool true)) H → ACall Tryz.prog (seatV eb) 23 [.d t.d, .d t.d] H K
 | 0, t, hm, _, _, _, _ => by have := t.nodes_pos; omega
 | m + 1, .mk k n i ts, hm, hs, H, K, hK => by
  simp only [Tm.nodes] at hm
  refine ACall.hp_start ?_
  refine ACall.by mixed fn23 (by simp) ?_
  conv in s23 => cbv
  refine svc_start ?_
  simp -dsimp only [go_sem, gS, Tm.d, Tm.cs, Tm.ds_map]
  refine newK_hp (fun b2 f2 => ?_)
  simp only [off_cons, off_nil] at f2
  simp -dsimp only [go_sem, gS, f2]
  refine newK_hp (fun b3 f3 => ?_)
  simp only [off_cons, off_nil] at f3
  simp -dsimp only [go_sem, gS, f2, f3, decide_true]
  refine sameTerms_row ts (by have := hs.1; omega) (fun t ht => sameTerm_self m t (by have := Tm.nodess_mem ht; omega) (Tm.smalls_mem hs.2 t ht)) _ _ ?_
  simp -dsimp only [go_sem, gS, f2, f3]
  exact retW_drop (G := H) (leH_hp0 (by simp only [hpS, eq_self, implies_true, f2, f3])) (retW_is hK)
theorem sameTerms_self {eb : EbG} (ts : List Tm) (hl : ts.length ≤ 1048576) (hs : Tm.smalls ts) (H : Heap) (K : A → Heap → Prop) (hK : K (.d (.bool true)) H) :
  ACall Tryz.prog (seatV eb) 56 [.d (.slice (ts.map Tm.d)), .d (.slice (ts.map Tm.d))] H K :=
 sameTerms_row ts hl (fun t ht => sameTerm_self t.nodes t (Nat.le_refl _) (Tm.smalls_mem hs t ht)) H K hK
theorem sameType_self {eb : EbG} : ∀ (m : Nat) (t : Ty), t.nodes ≤ m → t.small → ∀ (H : Heap) (K : A → Heap → Prop), K (.d (.bool true)) H → ACall Tryz.prog (seatV eb) 26 [.d t.d, .d t.d] H K
 | 0, .mk v n ts, hm, _, _, _, _ => by simp only [Ty.nodes] at hm; omega
 | m + 1, .mk v n ts, hm, hs, H, K, hK => by
  simp only [Ty.nodes] at hm
  refine ACall.hp_start ?_
  refine ACall.by mixed fn26 (by simp) ?_
  conv in s26 => cbv
  refine svc_start ?_
  simp -dsimp only [go_sem, gS, Ty.d, Ty.cs, Ty.ds_map]
  refine newK_hp (fun b2 f2 => ?_)
  simp only [off_cons, off_nil] at f2
  simp -dsimp only [go_sem, gS, f2]
  refine newK_hp (fun b3 f3 => ?_)
  simp only [off_cons, off_nil] at f3
  simp -dsimp only [go_sem, gS, f2, f3, decide_true, beq_self_eq_true]
  refine sameTypes_row ts (by have := hs.1; omega) (fun t ht => sameType_self m t (by have := Ty.nodess_mem ht; omega) (Ty.smalls_mem hs.2 t ht)) _ _ ?_
  simp -dsimp only [go_sem, gS, f2, f3]
  exact retW_drop (G := H) (leH_hp0 (by simp only [hpS, eq_self, implies_true, f2, f3])) (retW_is hK)
end Go.Aug

/- Walks of SmB. -/
namespace Go.Aug
open Go.Proofs
set_option maxRecDepth 100000
set_option linter.unusedSimpArgs false
attribute [local irreducible] hid andK letA onSome onVar onArr arrOnly onInt onBool onTup idxA ldV ldD addO ofPart appTo fillL slA srcK nilQ retW gif sgd sguard svc sops sdops sagain aopO aLoad aStore aBin aUn aConv aLen aIndexAddr aIndex aIndexAddrS aIndexS aSlice aAppend aBuild aBuildSlice aMakeSlice aField aFieldOf aCallOp deepK deepL frzM putE newK newV growV ACall roundQ thenQ inBlockQ sret cnd szs nilC aLookup aMapUpdate aMakeMap
attribute [local go_sem] Int.natCast_zero
set_option maxHeartbeats 4000000 in
theorem sameGoal_self {eb : EbG} : ∀ (m : Nat) (g : Gl), g.nodes ≤ m → g.small → ∀ (H : Heap) (K : A → Heap → Prop), K (.d (.bool true)) H → ACall Tryz.prog (seatV eb) 20 [.d g.d, .d g.d] H K
 | 0, g, hm, _, _, _, _ => by have := g.nodes_pos; omega
 | m + 1, .mk k (.mk k1 n1 i1 xs1) (.mk k2 n2 i2 xs2) n xs gs, hm, hs, H, K, hK => by
  obtain ⟨hsa, hsb, hxl, hsx, hgl, hsg⟩ := hs
  simp only [Gl.nodes] at hm
  have hta := fun H => sameTerm_self (eb := eb) _ (.mk k1 n1 i1 xs1) (Nat.le_refl _) hsa H
  have htb := fun H => sameTerm_self (eb := eb) _ (.mk k2 n2 i2 xs2) (Nat.le_refl _) hsb H
  refine ACall.hp_start ?_
  refine ACall.by mixed fn20 (by simp) ?_
  conv in s20 => cbv
  refine svc_start ?_
  simp -dsimp only [go_sem, gS, Gl.d, Gl.cs, Tm.cs, List.cons_append, List.nil_append, Gl.ds_map]
  refine newK_hp (fun b2 f2 => ?_)
  simp only [off_cons, off_nil] at f2
  simp -dsimp only [go_sem, gS, f2]
  refine newK_hp (fun b3 f3 => ?_)
  simp only [off_cons, off_nil] at f3
  simp -dsimp only [go_sem, gS, f2, f3, decide_true]
  refine hta _ _ ?_
  simp -dsimp only [go_sem, gS, f2, f3]
  refine htb _ _ ?_
  simp -dsimp only [go_sem, gS, f2, f3]
  refine sameTerms_self xs (by omega) hsx _ _ ?_
  simp -dsimp only [go_sem, gS, f2, f3, decide_true]
  refine svc_loop (X := Nat) (fun j => [(2, .ref b2 0), (3, .ref b3 0), (53, .d (.int .i64 gs.length)), (54, .d (.int .i64 j))]) (fun j G => G = hp H [(b2, .var [.d (.int .i64 k), .d (.int .i64 k1), .d (.str n1), .d (.int .i64 i1), .d (.slice (Tm.ds xs1)), .d (.int .i64 k2), .d (.str n2), .d (.int .i64 i2), .d (.slice (Tm.ds xs2)), .d (.str n), .d (.slice (xs.map Tm.d)), .d (.slice (gs.map Gl.d))]), (b3, .var [.d (.int .i64 k), .d (.int .i64 k1), .d (.str n1), .d (.int .i64 i1), .d (.slice (Tm.ds xs1)), .d (.int .i64 k2), .d (.str n2), .d (.int .i64 i2), .d (.slice (Tm.ds xs2)), .d (.str n), .d (.slice (xs.map Tm.d)), .d (.slice (gs.map Gl.d))])] ∧ j ≤ gs.length) (fun j => gs.length - j) 0 _ ⟨rfl, Nat.zero_le _⟩ (by simp -dsimp only [go_sem, gS]) (leH_hp (by simp only [hpS, eq_self, implies_true, f2, f3]) (by simp only [hpS, eq_self, implies_true, f2, f3])) ?_
  rintro j G ⟨hG, hj⟩
  subst hG
  simp -dsimp only [go_sem, gS]
  refine gif_split (fun q1 => ?_) (fun q1 => ?_)
  ·have q1' : j < gs.length := by have := of_decide_eq_true q1; omega
   obtain ⟨g, hx⟩ := list_at q1'
   have hw := wrapN (k := j) (by omega)
   have hgm := Gl.nodess_mem (List.mem_of_getElem? hx)
   have hg := fun H => sameGoal_self (eb := eb) m g (by omega) (Gl.smalls_mem hsg g (List.mem_of_getElem? hx)) H
   obtain ⟨gk, ⟨g1, m1, j1, y1⟩, ⟨g2, m2, j2, y2⟩, gn, gxs, ggs⟩ := g
   simp -dsimp only [go_sem, gS, q1, hx, f2, f3, Gl.d, Gl.cs, Tm.cs, List.cons_append, List.nil_append]
   refine hg _ _ ?_
   simp -dsimp only [go_sem, gS, f2, f3, hw]
   refine roundQ_next (j + 1) _ ⟨rfl, q1'⟩ (by omega) (by simp -dsimp only [go_sem, gS]) (leH_hp (by simp only [hpS, eq_self, implies_true, f2, f3]) (by simp only [hpS, eq_self, implies_true, f2, f3]))
  ·simp -dsimp only [go_sem, gS, q1, f2, f3]
   exact retW_drop (G := H) (leH_hp0 (by simp only [hpS, eq_self, implies_true, f2, f3])) (retW_is hK)
end Go.Aug
