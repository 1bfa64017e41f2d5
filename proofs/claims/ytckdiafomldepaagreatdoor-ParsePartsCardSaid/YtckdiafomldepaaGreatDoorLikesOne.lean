/- The contracts of comparisons of a thing with itself, and of the errors' numbers; conditions stand in each contract. -/
import Derived.Test.YtckdiafomldepaaGreatDoorReaderFour
import Derived.Test.YtckdiafomldepaaGreatDoorGrammarOne
set_option linter.all false
set_option linter.unusedVariables false
set_option linter.unusedSimpArgs false
set_option linter.unusedSectionVars false

/- Walks of SmA. -/
namespace Go.Aug
open Go.Proofs
set_option maxRecDepth 100000
set_option linter.unusedSimpArgs false
attribute [local irreducible] hid andK letA onSome onVar onArr arrOnly onInt onBool onTup idxA ldV ldD addO ofPart appTo fillL slA srcK nilQ retW gif sgd sguard svc sops sdops sagain aopO aLoad aStore aBin aUn aConv aLen aIndexAddr aIndex aIndexAddrS aIndexS aSlice aAppend aBuild aBuildSlice aMakeSlice aField aFieldOf aCallOp deepK deepL frzM putE newK newV growV ACall roundQ thenQ inBlockQ sret cnd szs nilC aLookup aMapUpdate aMakeMap
attribute [local go_sem] Int.natCast_zero
theorem sameTerms_row {eb : EbG} (ts : List Tm) (hl : ts.length ≤ 1048576) (h : ∀ t ∈ ts, ∀ (H : Heap) (K : A → Heap → Prop), K (.d (.bool true)) H → ACall Tryz.prog (seatV eb) 16 [.d t.d, .d t.d] H K) (H : Heap) (K : A → Heap → Prop) (hK : K (.d (.bool true)) H) :
  ACall Tryz.prog (seatV eb) 43 [.d (.slice (ts.map Tm.d)), .d (.slice (ts.map Tm.d))] H K := by
 refine ACall.by mixed fn43 (by simp) ?_
 conv in s43 => cbv
 refine svc_start ?_
 simp -dsimp only [go_sem, gS, decide_true]
 refine svc_loop (X := Nat) (fun j => [(0, .d (.slice (ts.map Tm.d))), (1, .d (.slice (ts.map Tm.d))), (12, .d (.int .i64 ts.length)), (13, .d (.int .i64 j))]) (fun j G => G = H ∧ j ≤ ts.length) (fun j => ts.length - j) 0 _ ⟨rfl, Nat.zero_le _⟩ (by simp -dsimp only [go_sem, gS]) (fun _ _ h => h) ?_
 rintro j G ⟨hG, hj⟩
 subst hG
 simp -dsimp only [go_sem, gS]
 refine gif_split (fun q1 => ?_) (fun q1 => ?_)
 ·have q1' : j < ts.length := by have := of_decide_eq_true q1; omega
  obtain ⟨t, hx⟩ := list_at q1'
  have hw := wrapN (k := j) (by omega)
  have ht := h t (List.mem_of_getElem? hx)
  obtain ⟨tk, tn, ti, ta⟩ := t
  simp -dsimp only [go_sem, gS, q1, hx, Tm.d, Tm.cs]
  refine ht _ _ ?_
  simp -dsimp only [go_sem, gS, hw]
  refine roundQ_next (j + 1) _ ⟨rfl, q1'⟩ (by omega) (by simp -dsimp only [go_sem, gS]) (fun _ _ h => h)
 ·simp -dsimp only [go_sem, gS, q1]
  exact retW_is hK
theorem sameTypes_row {eb : EbG} (ts : List Ty) (hl : ts.length ≤ 1048576) (h : ∀ t ∈ ts, ∀ (H : Heap) (K : A → Heap → Prop), K (.d (.bool true)) H → ACall Tryz.prog (seatV eb) 18 [.d t.d, .d t.d] H K) (H : Heap) (K : A → Heap → Prop) (hK : K (.d (.bool true)) H) :
  ACall Tryz.prog (seatV eb) 44 [.d (.slice (ts.map Ty.d)), .d (.slice (ts.map Ty.d))] H K := by
 refine ACall.by mixed fn44 (by simp) ?_
 conv in s44 => cbv
 refine svc_start ?_
 simp -dsimp only [go_sem, gS, decide_true]
 refine svc_loop (X := Nat) (fun j => [(0, .d (.slice (ts.map Ty.d))), (1, .d (.slice (ts.map Ty.d))), (12, .d (.int .i64 ts.length)), (13, .d (.int .i64 j))]) (fun j G => G = H ∧ j ≤ ts.length) (fun j => ts.length - j) 0 _ ⟨rfl, Nat.zero_le _⟩ (by simp -dsimp only [go_sem, gS]) (fun _ _ h => h) ?_
 rintro j G ⟨hG, hj⟩
 subst hG
 simp -dsimp only [go_sem, gS]
 refine gif_split (fun q1 => ?_) (fun q1 => ?_)
 ·have q1' : j < ts.length := by have := of_decide_eq_true q1; omega
  obtain ⟨t, hx⟩ := list_at q1'
  have hw := wrapN (k := j) (by omega)
  have ht := h t (List.mem_of_getElem? hx)
  obtain ⟨tv, tn, ta⟩ := t
  simp -dsimp only [go_sem, gS, q1, hx, Ty.d, Ty.cs]
  refine ht _ _ ?_
  simp -dsimp only [go_sem, gS, hw]
  refine roundQ_next (j + 1) _ ⟨rfl, q1'⟩ (by omega) (by simp -dsimp only [go_sem, gS]) (fun _ _ h => h)
 ·simp -dsimp only [go_sem, gS, q1]
  exact retW_is hK
theorem sameTerm_self {eb : EbG} : ∀ (m : Nat) (t : Tm), t.nodes ≤ m → t.small → ∀ (H : Heap) (K : A → Heap → Prop), K (.d (.bool true)) H → ACall Tryz.prog (seatV eb) 16 [.d t.d, .d t.d] H K
 | 0, t, hm, _, _, _, _ => by have := t.nodes_pos; omega
 | m + 1, .mk k n i ts, hm, hs, H, K, hK => by
  simp only [Tm.nodes] at hm
  refine ACall.hp_start ?_
  refine ACall.by mixed fn16 (by simp) ?_
  conv in s16 => cbv
  refine svc_start ?_
  simp -dsimp only [go_sem, gS, Tm.d, Tm.cs, Tm.ds_map]
  refine newK_hp (fun b2 f2 => ?_)
  simp only [off_cons, off_nil] at f2
  simp -dsimp only [go_sem, gS, f2]
  refine newK_hp (fun b3 f3 => ?_)
  simp only [off_cons, off_nil] at f3
  simp -dsimp only [go_sem, gS, f2, f3, decide_true]
  refine sameTerms_row ts (by have := hs.1; omega) (fun t ht => sameTerm_self m t (by have := Tm.nodess_mem ht; omega) (Tm.smalls_mem hs.2 t ht)) _ _ ?_
  simp -dsimp only [go_sem, gS, f2, f3]
  exact retW_drop (G := H) (leH_hp0 (by simp only [hpS, eq_self, implies_true, f2, f3])) (retW_is hK)
theorem sameTerms_self {eb : EbG} (ts : List Tm) (hl : ts.length ≤ 1048576) (hs : Tm.smalls ts) (H : Heap) (K : A → Heap → Prop) (hK : K (.d (.bool true)) H) :
  ACall Tryz.prog (seatV eb) 43 [.d (.slice (ts.map Tm.d)), .d (.slice (ts.map Tm.d))] H K :=
 sameTerms_row ts hl (fun t ht => sameTerm_self t.nodes t (Nat.le_refl _) (Tm.smalls_mem hs t ht)) H K hK
theorem sameType_self {eb : EbG} : ∀ (m : Nat) (t : Ty), t.nodes ≤ m → t.small → ∀ (H : Heap) (K : A → Heap → Prop), K (.d (.bool true)) H → ACall Tryz.prog (seatV eb) 18 [.d t.d, .d t.d] H K
 | 0, .mk v n ts, hm, _, _, _, _ => by simp only [Ty.nodes] at hm; omega
 | m + 1, .mk v n ts, hm, hs, H, K, hK => by
  simp only [Ty.nodes] at hm
  refine ACall.hp_start ?_
  refine ACall.by mixed fn18 (by simp) ?_
  conv in s18 => cbv
  refine svc_start ?_
  simp -dsimp only [go_sem, gS, Ty.d, Ty.cs, Ty.ds_map]
  refine newK_hp (fun b2 f2 => ?_)
  simp only [off_cons, off_nil] at f2
  simp -dsimp only [go_sem, gS, f2]
  refine newK_hp (fun b3 f3 => ?_)
  simp only [off_cons, off_nil] at f3
  simp -dsimp only [go_sem, gS, f2, f3, decide_true, beq_self_eq_true]
  refine sameTypes_row ts (by have := hs.1; omega) (fun t ht => sameType_self m t (by have := Ty.nodess_mem ht; omega) (Ty.smalls_mem hs.2 t ht)) _ _ ?_
  simp -dsimp only [go_sem, gS, f2, f3]
  exact retW_drop (G := H) (leH_hp0 (by simp only [hpS, eq_self, implies_true, f2, f3])) (retW_is hK)
end Go.Aug

/- Walks of SmB. -/
namespace Go.Aug
open Go.Proofs
set_option maxRecDepth 100000
set_option linter.unusedSimpArgs false
attribute [local irreducible] hid andK letA onSome onVar onArr arrOnly onInt onBool onTup idxA ldV ldD addO ofPart appTo fillL slA srcK nilQ retW gif sgd sguard svc sops sdops sagain aopO aLoad aStore aBin aUn aConv aLen aIndexAddr aIndex aIndexAddrS aIndexS aSlice aAppend aBuild aBuildSlice aMakeSlice aField aFieldOf aCallOp deepK deepL frzM putE newK newV growV ACall roundQ thenQ inBlockQ sret cnd szs nilC aLookup aMapUpdate aMakeMap
attribute [local go_sem] Int.natCast_zero
set_option maxHeartbeats 4000000 in
theorem sameGoal_self {eb : EbG} : ∀ (m : Nat) (g : Gl), g.nodes ≤ m → g.small → ∀ (H : Heap) (K : A → Heap → Prop), K (.d (.bool true)) H → ACall Tryz.prog (seatV eb) 17 [.d g.d, .d g.d] H K
 | 0, g, hm, _, _, _, _ => by have := g.nodes_pos; omega
 | m + 1, .mk k (.mk k1 n1 i1 xs1) (.mk k2 n2 i2 xs2) n xs gs, hm, hs, H, K, hK => by
  obtain ⟨hsa, hsb, hxl, hsx, hgl, hsg⟩ := hs
  simp only [Gl.nodes] at hm
  have hta := fun H => sameTerm_self (eb := eb) _ (.mk k1 n1 i1 xs1) (Nat.le_refl _) hsa H
  have htb := fun H => sameTerm_self (eb := eb) _ (.mk k2 n2 i2 xs2) (Nat.le_refl _) hsb H
  refine ACall.hp_start ?_
  refine ACall.by mixed fn17 (by simp) ?_
  conv in s17 => cbv
  refine svc_start ?_
  simp -dsimp only [go_sem, gS, Gl.d, Gl.cs, Tm.cs, List.cons_append, List.nil_append, Gl.ds_map]
  refine newK_hp (fun b2 f2 => ?_)
  simp only [off_cons, off_nil] at f2
  simp -dsimp only [go_sem, gS, f2]
  refine newK_hp (fun b3 f3 => ?_)
  simp only [off_cons, off_nil] at f3
  simp -dsimp only [go_sem, gS, f2, f3, decide_true]
  refine hta _ _ ?_
  simp -dsimp only [go_sem, gS, f2, f3]
  refine htb _ _ ?_
  simp -dsimp only [go_sem, gS, f2, f3]
  refine sameTerms_self xs (by omega) hsx _ _ ?_
  simp -dsimp only [go_sem, gS, f2, f3, decide_true]
  refine svc_loop (X := Nat) (fun j => [(2, .ref b2 0), (3, .ref b3 0), (53, .d (.int .i64 gs.length)), (54, .d (.int .i64 j))]) (fun j G => G = hp H [(b2, .var [.d (.int .i64 k), .d (.int .i64 k1), .d (.str n1), .d (.int .i64 i1), .d (.slice (Tm.ds xs1)), .d (.int .i64 k2), .d (.str n2), .d (.int .i64 i2), .d (.slice (Tm.ds xs2)), .d (.str n), .d (.slice (xs.map Tm.d)), .d (.slice (gs.map Gl.d))]), (b3, .var [.d (.int .i64 k), .d (.int .i64 k1), .d (.str n1), .d (.int .i64 i1), .d (.slice (Tm.ds xs1)), .d (.int .i64 k2), .d (.str n2), .d (.int .i64 i2), .d (.slice (Tm.ds xs2)), .d (.str n), .d (.slice (xs.map Tm.d)), .d (.slice (gs.map Gl.d))])] ∧ j ≤ gs.length) (fun j => gs.length - j) 0 _ ⟨rfl, Nat.zero_le _⟩ (by simp -dsimp only [go_sem, gS]) (leH_hp (by simp only [hpS, eq_self, implies_true, f2, f3]) (by simp only [hpS, eq_self, implies_true, f2, f3])) ?_
  rintro j G ⟨hG, hj⟩
  subst hG
  simp -dsimp only [go_sem, gS]
  refine gif_split (fun q1 => ?_) (fun q1 => ?_)
  ·have q1' : j < gs.length := by have := of_decide_eq_true q1; omega
   obtain ⟨g, hx⟩ := list_at q1'
   have hw := wrapN (k := j) (by omega)
   have hgm := Gl.nodess_mem (List.mem_of_getElem? hx)
   have hg := fun H => sameGoal_self (eb := eb) m g (by omega) (Gl.smalls_mem hsg g (List.mem_of_getElem? hx)) H
   obtain ⟨gk, ⟨g1, m1, j1, y1⟩, ⟨g2, m2, j2, y2⟩, gn, gxs, ggs⟩ := g
   simp -dsimp only [go_sem, gS, q1, hx, f2, f3, Gl.d, Gl.cs, Tm.cs, List.cons_append, List.nil_append]
   refine hg _ _ ?_
   simp -dsimp only [go_sem, gS, f2, f3, hw]
   refine roundQ_next (j + 1) _ ⟨rfl, q1'⟩ (by omega) (by simp -dsimp only [go_sem, gS]) (leH_hp (by simp only [hpS, eq_self, implies_true, f2, f3]) (by simp only [hpS, eq_self, implies_true, f2, f3]))
  ·simp -dsimp only [go_sem, gS, q1, f2, f3]
   exact retW_drop (G := H) (leH_hp0 (by simp only [hpS, eq_self, implies_true, f2, f3])) (retW_is hK)
end Go.Aug

/- Walks of SmC. -/
namespace Go.Aug
open Go.Proofs
set_option maxRecDepth 100000
set_option linter.unusedSimpArgs false
attribute [local irreducible] hid andK letA onSome onVar onArr arrOnly onInt onBool onTup idxA ldV ldD addO ofPart appTo fillL slA srcK nilQ retW gif sgd sguard svc sops sdops sagain aopO aLoad aStore aBin aUn aConv aLen aIndexAddr aIndex aIndexAddrS aIndexS aSlice aAppend aBuild aBuildSlice aMakeSlice aField aFieldOf aCallOp deepK deepL frzM putE newK newV growV ACall roundQ thenQ inBlockQ sret cnd szs nilC aLookup aMapUpdate aMakeMap
attribute [local go_sem] Int.natCast_zero
/-- All sentinels are known. -/
class OnAll (e : EbG) : Prop where
 on : ∀ g < 16, e.on g = true
/-- The errors, in the order of their numbers. -/
def errsL : List Nat := [1, 2, 3, 0, 4, 5, 6, 7, 8, 9, 10, 11, 12, 13, 14, 15]
theorem numNil_ok {eb : EbG} (H : Heap) (K : A → Heap → Prop) (hK : K (.d (.int .i64 0)) H) : ACall Tryz.prog (seatV eb) 9 [.d (.raw .nilIface)] H K := by
 refine ACall.by mixed fn9 (by simp) ?_
 conv in s9 => cbv
 refine svc_start ?_
 simp -dsimp only [go_sem, gS]
 refine andK_split rfl ?_
 simp -dsimp only [go_sem, gS]
 exact retW_is hK
set_option maxHeartbeats 4000000 in
theorem num_ok {eb : EbG} [ho : OnAll eb] (n k : Nat) (hk : errsL[k]? = some n) (hf : ∀ j < k, ∀ m, errsL[j]? = some m → m ≠ n) (H : Heap) (K : A → Heap → Prop) (hK : K (.d (.int .i64 ((k + 1 : Nat) : Int))) H) : ACall Tryz.prog (seatV eb) 9 [.d (.sent n)] H K := by
 have hG : ∀ g < 16, (seatV eb).G g = some (.sent g) := fun g hg => if_pos (ho.on g hg)
 have g0 := hG 0 (by decide)
 have g1 := hG 1 (by decide)
 have g2 := hG 2 (by decide)
 have g3 := hG 3 (by decide)
 have g4 := hG 4 (by decide)
 have g5 := hG 5 (by decide)
 have g6 := hG 6 (by decide)
 have g7 := hG 7 (by decide)
 have g8 := hG 8 (by decide)
 have g9 := hG 9 (by decide)
 have g10 := hG 10 (by decide)
 have g11 := hG 11 (by decide)
 have g12 := hG 12 (by decide)
 have g13 := hG 13 (by decide)
 have g14 := hG 14 (by decide)
 have g15 := hG 15 (by decide)
 refine ACall.hp_start ?_
 refine ACall.by mixed fn9 (by simp) ?_
 conv in s9 => cbv
 refine svc_start ?_
 simp -dsimp only [go_sem, gS]
 simp -dsimp only [go_sem, gS, g0, g1, g2, g3, g4, g5, g6, g7, g8, g9, g10, g11, g12, g13, g14, g15]
 clear g0 g1 g2 g3 g4 g5 g6 g7 g8 g9 g10 g11 g12 g13 g14 g15
 have hall : ∀ m ∈ errsL, m < 16 := by decide
 have hgn := hG n (hall n (List.mem_of_getElem? hk))
 refine newV_hp (fun b24 v24 f24 w24 => ?_)
 simp only [off_cons, off_nil] at f24
 simp -dsimp only [go_sem, gS, f24, List.length_cons, List.length_nil]
 have hE : errsL.map D.sent = [.sent 1, .sent 2, .sent 3, .sent 0, .sent 4, .sent 5, .sent 6, .sent 7, .sent 8, .sent 9, .sent 10, .sent 11, .sent 12, .sent 13, .sent 14, .sent 15] := rfl
 have hlen : errsL.length = 16 := rfl
 have hkl := (List.getElem?_eq_some_iff.1 hk).1
 refine svc_loop (X := Nat) (fun j => [(0, .d (.sent n)), (25, .own b24 v24), (26, .d (.int .i64 ((16 : Nat) : Int))), (27, .d (.int .i64 j))]) (fun j G => G = hp H [(b24, .arr 25 1 v24 (errsL.map D.sent))] ∧ j ≤ k) (fun j => 16 - j) 0 _ ⟨rfl, Nat.zero_le _⟩ (by simp -dsimp only [go_sem, gS]) (leH_hp (by simp only [hpS, eq_self, implies_true, f24, hE]) (by simp only [hpS, eq_self, implies_true, f24, hE])) ?_
 rintro j G ⟨hGG, hj⟩
 subst hGG
 have q1 : decide ((j : Int) < ((16 : Nat) : Int)) = true := by simp; omega
 have q1' : j < errsL.length := by omega
 obtain ⟨m, hx⟩ := list_at q1'
 have hw := wrapN (k := j) (by omega)
 simp -dsimp only [go_sem, gS, q1, q1', hx, f24, Option.map_some]
 have hgm := hG m (hall m (List.mem_of_getElem? hx))
 refine andK_split ⟨hgn, hgm⟩ ?_
 by_cases hjk : j = k
 ·subst hjk
  rw [hk] at hx
  cases hx
  simp -dsimp only [go_sem, gS, f24, decide_true, hw]
  exact retW_drop (G := H) (leH_hp0 (by simp only [hpS, eq_self, implies_true, f24])) (retW_is hK)
 ·have hne : decide (n = m) = false := by
   have := hf j (by omega) m hx
   simp; omega
  simp -dsimp only [go_sem, gS, f24, hne, hw]
  refine roundQ_next (j + 1) _ ⟨rfl, by omega⟩ (by omega) (by simp -dsimp only [go_sem, gS]) (leH_hp (by simp only [hpS, eq_self, implies_true, f24]) (by simp only [hpS, eq_self, implies_true, f24]))
/-- The number of an error that the reader tells. -/
theorem numD_ok {eb : EbG} [OnAll eb] (e : Int) (he : e = 0 ∨ e = 1 ∨ e = 2 ∨ e = 3 ∨ e = 4) (H : Heap) (K : A → Heap → Prop) (hK : K (.d (.int .i64 e)) H) : ACall Tryz.prog (seatV eb) 9 [.d (errD e)] H K := by
 rcases he with rfl | rfl | rfl | rfl | rfl
 ·exact numNil_ok _ _ hK
 ·exact num_ok 1 0 rfl (by decide) _ _ hK
 ·exact num_ok 2 1 rfl (by decide) _ _ hK
 ·exact num_ok 3 2 rfl (by decide) _ _ hK
 ·exact num_ok 0 3 rfl (by decide) _ _ hK
end Go.Aug
