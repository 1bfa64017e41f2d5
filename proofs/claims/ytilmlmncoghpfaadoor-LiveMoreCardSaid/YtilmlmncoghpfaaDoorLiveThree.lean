/- The contracts of live.Maps and of LiveMore; conditions stand in each contract. -/
import Derived.Test.YtilmlmncoghpfaaDoorLiveTwo
set_option linter.all false
set_option linter.unusedVariables false
set_option linter.unusedSimpArgs false
set_option linter.unusedSectionVars false

/- live.Maps. -/
namespace Go.Aug
open Go.Proofs
set_option maxRecDepth 100000
set_option linter.unusedSimpArgs false
attribute [local irreducible] hid andK letA onSome onVar onArr arrOnly onInt onBool onFunc onTup idxA ldV ldD addO ofPart appTo fillL slA srcK nilQ retW gif sgd sguard svc sops sdops sagain aopO aLoad aStore aBin aUn aConv aLen aIndexAddr aIndex aSlice aAppend aBuild aBuildSlice aMakeSlice aField aFieldOf aCallOp deepK deepL frzM putE newK newV growV ACall roundQ thenQ inBlockQ sret cnd szs nilC

/-- What a map is at a place: of a building what is live behind it but what it writes; of a choice what is live where it goes back to. -/
structure MapI (c : Cod) (gs : List (List Int)) (p : Nat) (i i' : Ins) : Prop where
  same : i' = { i with live := i'.live }
  none : i.op ≠ 3 → i.op ≠ 10 → i.op ≠ 14 → i'.live = []
  build : i.op = 3 → ∀ x ∈ i'.live, ∃ r : Nat, x = r ∧ LiveAt c gs (p + 1) r ∧ x ≠ i.a
  choice : i.op = 14 → ∀ x ∈ i'.live, ∃ r t : Nat, x = r ∧ i.l = t ∧ LiveAt c gs t r
  short : i'.live.length < 1099511627776

/-- What live.Maps hands back. -/
inductive MapsR (c : Cod) : Cod → D → Prop
  | no (h : FlowIs c none) : MapsR c ⟨⟨#[]⟩, [], [], 0, [], []⟩ (.sent 0)
  | yes (gs : List (List Int)) (nb : List Ins) (h : FlowIs c (some gs)) (hl : nb.length = c.body.length) (hm : ∀ (p : Nat) i', nb[p]? = some i' → ∃ i, c.body[p]? = some i ∧ MapI c gs p i i') : MapsR c { c with body := nb } (.raw .nilIface)

def zIns : Ins := ⟨0, 0, 0, 0, 0, 0, [], [], []⟩

/-- A set put into one that is apart. -/
theorem add_m {eb : Nat → Addr} {B G : Heap} {bo : Nat} {vo : Value} {bs : List (Nat × Value)} {wss : List (List Nat)} {bm : Nat} {vm : Value} {ws us : List Nat} {t bt : Nat} {vt : Value} {but : List Int} {W : Nat} {K : A → Heap → Prop}
    (hS : SetsAt (upd B bm (.arr 89 1 vm (wordsD ws))) bo vo bs wss G) (hbt : bs[t]? = some (bt, vt)) (hus : wss[t]? = some us) (hw : ws.length = W ∧ wordsOk ws) (hu : us.length = W ∧ wordsOk us) (hW : W < 1048576)
    (hb : but.length < 1099511627776) (hr : ∀ r ∈ but, 0 ≤ r ∧ r < 4611686018427387904)
    (hK : ∀ b G2, SetsAt (upd B bm (.arr 89 1 vm (wordsD (addW ws us but)))) bo vo bs wss G2 → K (.d (.bool b)) G2) : ACall Tryd.prog (seatV eb) 25 [.own bm vm, .own bt vt, .d (ints but)] G K := by
  obtain ⟨o1, o2, o3, o4⟩ := hS.own t _ _ hbt hus
  have hGm := hS.le bm _ (upd_same ..)
  refine add_ok G bm bt vm vt ws us but hGm o4 hw.2 hu.2 (by omega) (by omega) hb hr K (hK _ _ ?_)
  have := hS.base (b := bm) (o' := .arr 89 1 vm (wordsD (addW ws us but))) (upd_same ..)
  rwa [upd_upd] at this

theorem addW_both {W : Nat} {ws us : List Nat} (but : List Int) (hw : ws.length = W ∧ wordsOk ws) (hu : us.length = W ∧ wordsOk us) : (addW ws us but).length = W ∧ wordsOk (addW ws us but) :=
  ⟨by rw [addW_length, hw.1], addTo_ok but hw.2 hu.2 _⟩

theorem LiveIs.bit {c : Cod} {gs : List (List Int)} {wss : List (List Nat)} {t : Nat} {us : List Nat} (hb : ∀ p r, bitAt wss p r = true ↔ LiveAt c gs p r) (h : wss[t]? = some us) {r : Nat} (hr : hasW us r = true) : LiveAt c gs t r :=
  (hb t r).1 (by rw [bitAt_get h]; exact hr)

theorem listTo_zero (W : Nat) : ∀ n, listTo (List.replicate W 0) n = []
  | 0 => rfl
  | n + 1 => by simp only [listTo, hasW_zero, Bool.false_eq_true, if_false]; exact listTo_zero W n

set_option maxHeartbeats 8000000 in
theorem maps_ok {eb : Nat → Addr} (H : Heap) (c : Cod) (hc : CodOk c) (hrd : ∀ i ∈ c.body, (readsI c i).length < 1099511627776) (hr8 : c.regs.length < 1048576) (K : A → Heap → Prop)
    (hK : ∀ m e, MapsR c m e → K (.tup [.d m.d, .d e]) H) : ACall Tryd.prog (seatV eb) 15 [.d c.d] H K := by
  have hn := hc.n
  refine ACall.by mixed fn15 (by simp) ?_
  conv in s15 => cbv
  refine svc_start ?_
  simp -dsimp (maxDischargeDepth := 9) only [go_sem, Nat.reduceBEq, Nat.reduceLT, Nat.reduceAdd, Nat.reduceSub, Nat.reduceMul, Nat.reduceLeDiff, Int.reduceLE, Int.toNat_natCast, Int.natCast_nonneg, List.getElem?_map, List.length_map, Nat.zero_add, eq_self, Bool.not_true, Bool.not_false, Cod.d, Cod.cs]
  refine newK_intro (fun b1 hb1 hn1 hm1 => ?_)
  have hle1 : LeH H (upd H b1 (.var (c.cs.map .d))) := leH_upd hb1 (.refl _)
  simp -dsimp (maxDischargeDepth := 9) only [go_sem, Nat.reduceBEq, Nat.reduceLT, Nat.reduceAdd, Nat.reduceSub, Nat.reduceMul, Nat.reduceLeDiff, Int.reduceLE, Int.toNat_natCast, Int.natCast_nonneg, List.getElem?_map, List.length_map, Nat.zero_add, eq_self, Bool.not_true, Bool.not_false]
  refine newK_intro (fun b2 hb2 hn2 hm2 => ?_)
  have e12 : eqn b1 b2 = false := hn2 b1 (by simp -dsimp (maxDischargeDepth := 9) only [go_sem, Nat.reduceBEq, Nat.reduceLT, Nat.reduceAdd, Nat.reduceSub, Nat.reduceMul, Nat.reduceLeDiff, Int.reduceLE, Int.toNat_natCast, Int.natCast_nonneg, List.getElem?_map, List.length_map, Nat.zero_add, eq_self, Bool.not_true, Bool.not_false])
  have hb2' : upd H b1 (.var (c.cs.map .d)) b2 = none := hb2
  have hle2 : ∀ o, LeH H (upd (upd H b1 (.var (c.cs.map .d))) b2 o) := fun o => LeH.up hle1 hb2'
  simp -dsimp (maxDischargeDepth := 9) only [go_sem, Nat.reduceBEq, Nat.reduceLT, Nat.reduceAdd, Nat.reduceSub, Nat.reduceMul, Nat.reduceLeDiff, Int.reduceLE, Int.toNat_natCast, Int.natCast_nonneg, List.getElem?_map, List.length_map, Nat.zero_add, eq_self, Bool.not_true, Bool.not_false, e12]
  refine flow_ok _ c hc hrd _ (fun r hr => ?_)
  simp -dsimp (maxDischargeDepth := 9) only [go_sem, Nat.reduceBEq, Nat.reduceLT, Nat.reduceAdd, Nat.reduceSub, Nat.reduceMul, Nat.reduceLeDiff, Int.reduceLE, Int.toNat_natCast, Int.natCast_nonneg, List.getElem?_map, List.length_map, Nat.zero_add, eq_self, Bool.not_true, Bool.not_false]
  cases r with
  | none =>
    simp -dsimp (maxDischargeDepth := 9) only [go_sem, Nat.reduceBEq, Nat.reduceLT, Nat.reduceAdd, Nat.reduceSub, Nat.reduceMul, Nat.reduceLeDiff, Int.reduceLE, Int.toNat_natCast, Int.natCast_nonneg, List.getElem?_map, List.length_map, Nat.zero_add, eq_self, Bool.not_true, Bool.not_false, Option.getD_none]
    refine retW_tup [true, true] ?_
    simp -dsimp (maxDischargeDepth := 9) only [go_sem, Nat.reduceBEq, Nat.reduceLT, Nat.reduceAdd, Nat.reduceSub, Nat.reduceMul, Nat.reduceLeDiff, Int.reduceLE, Int.toNat_natCast, Int.natCast_nonneg, List.getElem?_map, List.length_map, Nat.zero_add, eq_self, Bool.not_true, Bool.not_false]
    refine retW_drop ?_ (retW_is (hK _ _ (.no hr)))
    exact leH_upd (LeH.free hle1 hb2') (hle2 _)
  | some gs =>
    obtain ⟨hgood, hgl, hgt⟩ := hr.good
    have hpos := flowBad_pos hgood
    have hkn := flowBad_known hgood
    generalize hW : (c.regs.length + 63) / 64 = W
    have hW1 : W < 1048576 := by omega
    have e63 : IntKind.i64.wrap ((c.regs.length : Int) + 63) = ((c.regs.length + 63 : Nat) : Int) := by rw [wrap64 (by omega) (by omega)]; omega
    have e64 : IntKind.i64.wrap (((c.regs.length + 63 : Nat) : Int).tdiv 64) = (W : Int) := by
      rw [Int.tdiv_eq_ediv_of_nonneg (by omega), wrap64 (by omega) (by omega)]; omega
    simp -dsimp (maxDischargeDepth := 9) only [go_sem, Nat.reduceBEq, Nat.reduceLT, Nat.reduceAdd, Nat.reduceSub, Nat.reduceMul, Nat.reduceLeDiff, Int.reduceLE, Int.toNat_natCast, Int.natCast_nonneg, List.getElem?_map, List.length_map, Nat.zero_add, eq_self, Bool.not_true, Bool.not_false, Option.getD_some, e12, Cod.cs]
    refine sets_ok _ c gs hc hkn hgl (fun x hx => ⟨(hgt x hx).1, by have := (hgt x hx).2; omega⟩) hpos _ (fun bo vo bs wss H' hS hwl hwok hbit => ?_)
    rw [hW] at hwok
    have hbl : bs.length = c.body.length := by rw [hS.len, hwl]
    have hG1 : H' b1 = some (.var (c.cs.map .d)) := hS.le _ _ (by simp -dsimp (maxDischargeDepth := 9) only [go_sem, Nat.reduceBEq, Nat.reduceLT, Nat.reduceAdd, Nat.reduceSub, Nat.reduceMul, Nat.reduceLeDiff, Int.reduceLE, Int.toNat_natCast, Int.natCast_nonneg, List.getElem?_map, List.length_map, Nat.zero_add, eq_self, Bool.not_true, Bool.not_false, e12, Cod.cs])
    simp -dsimp (maxDischargeDepth := 9) only [go_sem, Nat.reduceBEq, Nat.reduceLT, Nat.reduceAdd, Nat.reduceSub, Nat.reduceMul, Nat.reduceLeDiff, Int.reduceLE, Int.toNat_natCast, Int.natCast_nonneg, List.getElem?_map, List.length_map, Nat.zero_add, eq_self, Bool.not_true, Bool.not_false, hG1, Cod.cs]
    refine andK_split (by omega) ?_
    simp -dsimp (maxDischargeDepth := 9) only [go_sem, Nat.reduceBEq, Nat.reduceLT, Nat.reduceAdd, Nat.reduceSub, Nat.reduceMul, Nat.reduceLeDiff, Int.reduceLE, Int.toNat_natCast, Int.natCast_nonneg, List.getElem?_map, List.length_map, Nat.zero_add, eq_self, Bool.not_true, Bool.not_false]
    refine newV_intro (fun b7 v7 hb7 hn7 hm7 hv7 => ?_)
    have e17 : eqn b1 b7 = false := hn7 b1 (by rw [hG1]; rfl)
    simp -dsimp (maxDischargeDepth := 9) only [go_sem, Nat.reduceBEq, Nat.reduceLT, Nat.reduceAdd, Nat.reduceSub, Nat.reduceMul, Nat.reduceLeDiff, Int.reduceLE, Int.toNat_natCast, Int.natCast_nonneg, List.getElem?_map, List.length_map, Nat.zero_add, eq_self, Bool.not_true, Bool.not_false, e17, hG1, Cod.cs]
    have hB1 : upd (upd H b1 (.var (c.cs.map .d))) b2 (.var [.d (.str ⟨#[]⟩), .nils, .nils, .d (.int .i64 0), .nils, .nils]) b1 = some (.var (c.cs.map .d)) := by simp -dsimp (maxDischargeDepth := 9) only [go_sem, Nat.reduceBEq, Nat.reduceLT, Nat.reduceAdd, Nat.reduceSub, Nat.reduceMul, Nat.reduceLeDiff, Int.reduceLE, Int.toNat_natCast, Int.natCast_nonneg, List.getElem?_map, List.length_map, Nat.zero_add, eq_self, Bool.not_true, Bool.not_false, e12]
    have hB2 : upd (upd H b1 (.var (c.cs.map .d))) b2 (.var [.d (.str ⟨#[]⟩), .nils, .nils, .d (.int .i64 0), .nils, .nils]) b2 = some (.var [.d (.str ⟨#[]⟩), .nils, .nils, .d (.int .i64 0), .nils, .nils]) := upd_same ..
    have hleB := hle2 (.var [.d (.str ⟨#[]⟩), .nils, .nils, .d (.int .i64 0), .nils, .nils])
    have hS : SetsAt (upd (upd H b1 (.var (c.cs.map .d))) b2 (.var [.d (.str ⟨#[]⟩), .nils, .nils, .d (.int .i64 0), .nils, .nils])) bo vo bs wss H' := hS
    generalize upd (upd H b1 (.var (c.cs.map .d))) b2 (.var [.d (.str ⟨#[]⟩), .nils, .nils, .d (.int .i64 0), .nils, .nils]) = B at hS hB1 hB2 hleB
    have hS7 := hS.both (o := .arr 40 9 v7 (List.replicate c.body.length zIns.d)) hb7
    have hB7 : B b7 = none := LeH.free hS.le hb7
    have hz : zIns.d = .agg [.int .i64 0, .int .i64 0, .int .i64 0, .int .i64 0, .int .i64 0, .int .i64 0, .slice [], .slice [], .slice []] := rfl
    rw [← hz]
    have hb1H : H b1 = none := hb1
    have hb2H : H b2 = none := LeH.free hle1 hb2'
    have h12 := e12
    have h21 : eqn b2 b1 = false := eqn_ne (Ne.symm (of_decide_eq_false e12))
    have e27 : eqn b2 b7 = false := eqn_ne (by rintro rfl; rw [hB2] at hB7; cases hB7)
    clear hS hle2 hb2' hb1 hb2 hn1 hm1 hn2 hm2 e12 hn7 hm7 hG1
    refine svc_loop (X := List Ins) (fun nb => [(1, .ref b1 0), (2, .ref b2 0), (4, .d (intss gs)), (6, .own bo vo), (7, .own b7 v7), (30, .d (.slice (c.body.map Ins.d))), (31, .d (.int .i64 c.body.length)), (32, .d (.int .i64 nb.length))])
      (fun nb G => nb.length ≤ c.body.length ∧ (∀ (p : Nat) i', nb[p]? = some i' → ∃ i, c.body[p]? = some i ∧ MapI c gs p i i') ∧ SetsAt (upd B b7 (.arr 40 9 v7 (nb.map Ins.d ++ List.replicate (c.body.length - nb.length) zIns.d))) bo vo bs wss G)
      (fun nb => c.body.length - nb.length) [] _ ⟨Nat.zero_le _, fun p i' h => by simp at h, hS7⟩ (by simp -dsimp (maxDischargeDepth := 9) only [go_sem, Nat.reduceBEq, Nat.reduceLT, Nat.reduceAdd, Nat.reduceSub, Nat.reduceMul, Nat.reduceLeDiff, Int.reduceLE, Int.toNat_natCast, Int.natCast_nonneg, List.getElem?_map, List.length_map, Nat.zero_add, eq_self, Bool.not_true, Bool.not_false, Int.natCast_zero]) (.refl _) ?_
    clear hS7 hb7
    rintro nb G ⟨hnl, hnb, hS⟩
    generalize hp : nb.length = p at hnl hS ⊢
    simp -dsimp (maxDischargeDepth := 9) only [go_sem, Nat.reduceBEq, Nat.reduceLT, Nat.reduceAdd, Nat.reduceSub, Nat.reduceMul, Nat.reduceLeDiff, Int.reduceLE, Int.toNat_natCast, Int.natCast_nonneg, List.getElem?_map, List.length_map, Nat.zero_add, eq_self, Bool.not_true, Bool.not_false]
    refine gif_split (fun h1 => ?_) (fun h1 => ?_)
    · have hpl : p < c.body.length := by simpa using h1
      obtain ⟨i, hi⟩ : ∃ i, c.body[p]? = some i := ⟨c.body[p], by simp [hpl]⟩
      have hki := hkn p i hi
      have hgr := goes_range hki
      have hwp := wrapS (k := p) (by omega)
      have hiok := hc.body i (List.mem_of_getElem? hi)
      have hG1 : G b1 = some (.var (c.cs.map .d)) := hS.le _ _ (by rw [upd_ne _ _ (of_decide_eq_false e17)]; exact hB1)
      simp -dsimp (maxDischargeDepth := 9) only [go_sem, Nat.reduceBEq, Nat.reduceLT, Nat.reduceAdd, Nat.reduceSub, Nat.reduceMul, Nat.reduceLeDiff, Int.reduceLE, Int.toNat_natCast, Int.natCast_nonneg, List.getElem?_map, List.length_map, Nat.zero_add, eq_self, Bool.not_true, Bool.not_false, hi, hpl, Ins.d, Ins.cs]
      refine newK_intro (fun b9 hb9 hn9 hm9 => ?_)
      have e19 : eqn b1 b9 = false := hn9 b1 (by rw [hG1]; rfl)
      have hS9 := hS.both (o := .var (i.cs.map .d)) hb9
      have hB9 := LeH.free hS.le hb9
      simp -dsimp (maxDischargeDepth := 9) only [go_sem, Nat.reduceBEq, Nat.reduceLT, Nat.reduceAdd, Nat.reduceSub, Nat.reduceMul, Nat.reduceLeDiff, Int.reduceLE, Int.toNat_natCast, Int.natCast_nonneg, List.getElem?_map, List.length_map, Nat.zero_add, eq_self, Bool.not_true, Bool.not_false, upd_upd, e19, hG1, Cod.cs, e63]
      refine andK_split (by decide) ?_
      simp -dsimp (maxDischargeDepth := 9) only [go_sem, Nat.reduceBEq, Nat.reduceLT, Nat.reduceAdd, Nat.reduceSub, Nat.reduceMul, Nat.reduceLeDiff, Int.reduceLE, Int.toNat_natCast, Int.natCast_nonneg, List.getElem?_map, List.length_map, Nat.zero_add, eq_self, Bool.not_true, Bool.not_false, e64]
      refine andK_split (by omega) ?_
      simp -dsimp (maxDischargeDepth := 9) only [go_sem, Nat.reduceBEq, Nat.reduceLT, Nat.reduceAdd, Nat.reduceSub, Nat.reduceMul, Nat.reduceLeDiff, Int.reduceLE, Int.toNat_natCast, Int.natCast_nonneg, List.getElem?_map, List.length_map, Nat.zero_add, eq_self, Bool.not_true, Bool.not_false]
      refine newV_intro (fun bm vm hbm hnm hmm hvm => ?_)
      have hSm := hS9.both (o := .arr 89 1 vm (wordsD (List.replicate W 0))) hbm
      have hBm := LeH.free hS9.le hbm
      have e9m : eqn b9 bm = false := hnm b9 (by simp -dsimp (maxDischargeDepth := 9) only [go_sem, Nat.reduceBEq, Nat.reduceLT, Nat.reduceAdd, Nat.reduceSub, Nat.reduceMul, Nat.reduceLeDiff, Int.reduceLE, Int.toNat_natCast, Int.natCast_nonneg, List.getElem?_map, List.length_map, Nat.zero_add, eq_self, Bool.not_true, Bool.not_false])
      rw [words_zero]
      simp -dsimp (maxDischargeDepth := 9) only [go_sem, Nat.reduceBEq, Nat.reduceLT, Nat.reduceAdd, Nat.reduceSub, Nat.reduceMul, Nat.reduceLeDiff, Int.reduceLE, Int.toNat_natCast, Int.natCast_nonneg, List.getElem?_map, List.length_map, Nat.zero_add, eq_self, Bool.not_true, Bool.not_false, e9m]
      have hcs : [A.d (.int .i64 i.op), .d (.int .i64 i.a), .d (.int .i64 i.b), .d (.int .i64 i.c), .d (.int .i64 i.n), .d (.int .i64 i.l), .d (ints i.list), .d (ints i.outs), .d (ints i.live)] = i.cs.map A.d := rfl
      rw [hcs]
      generalize upd (upd G b9 (.var (i.cs.map .d))) bm (.arr 89 1 vm (wordsD (List.replicate W 0))) = G1 at hSm ⊢
      clear hS9 hb9 hn9 hm9 hbm hnm hmm hG1
      have hws0 : (List.replicate W 0).length = W ∧ wordsOk (List.replicate W 0) := ⟨by simp, by intro x hx; rw [List.mem_replicate] at hx; obtain ⟨_, rfl⟩ := hx; decide⟩
      have hpS : ∀ {t : Nat}, t < c.body.length → ∃ bt vt us, bs[t]? = some (bt, vt) ∧ wss[t]? = some us ∧ us.length = W ∧ wordsOk us := by
        intro t ht
        refine ⟨(bs[t]'(by omega)).1, (bs[t]'(by omega)).2, wss[t]'(by omega), by simp [hbl, ht], by simp [hwl, ht], ?_⟩
        exact hwok _ (List.getElem_mem _)
      have hb91 : ∀ {X : AObj} {G2 : Heap}, SetsAt (upd (upd (upd B b7 (.arr 40 9 v7 (nb.map Ins.d ++ List.replicate (c.body.length - p) zIns.d))) b9 (.var (i.cs.map .d))) bm X) bo vo bs wss G2 → G2 b9 = some (.var (i.cs.map .d)) ∧ G2 b1 = some (.var (c.cs.map .d)) ∧ G2 bo = some (.arr 62 1 vo (bs.map fun p => .raw p.2)) := by
        intro X G2 h
        refine ⟨h.le _ _ ?_, h.le _ _ ?_, by rw [h.out, List.append_nil]⟩
        · rw [upd_ne _ _ (of_decide_eq_false e9m), upd_same]
        · have : b1 ≠ bm := by
            rintro rfl
            rw [upd_ne _ _ (of_decide_eq_false e19), upd_ne _ _ (of_decide_eq_false e17), hB1] at hBm
            cases hBm
          rw [upd_ne _ _ this, upd_ne _ _ (of_decide_eq_false e19), upd_ne _ _ (of_decide_eq_false e17)]; exact hB1
      obtain ⟨q9, q1, qo⟩ := hb91 hSm
      refine (fun (key : ∀ ws G2, ws.length = W ∧ wordsOk ws → (i.op ≠ 3 → i.op ≠ 10 → i.op ≠ 14 → ws = List.replicate W 0) → (i.op = 3 → ∀ r, hasW ws r = true → LiveAt c gs (p + 1) r ∧ (r : Int) ≠ i.a) → (i.op = 14 → ∀ r, hasW ws r = true → ∃ t : Nat, i.l = t ∧ LiveAt c gs t r) →
          SetsAt (upd (upd (upd B b7 (.arr 40 9 v7 (nb.map Ins.d ++ List.replicate (c.body.length - p) zIns.d))) b9 (.var (i.cs.map .d))) bm (.arr 89 1 vm (wordsD ws))) bo vo bs wss G2 → (?T : Heap → Prop) G2) => ?main) ?rest
      case main =>
        refine gif_split (fun h2 => ?_) (fun h2 => ?_)
        · have h3 : i.op = 3 := by simpa using h2
          have hin := hgr ((p : Int) + 1) (by simp [goesI, h3, testsI])
          obtain ⟨bt, vt, us, hbt, hus, hul, huo⟩ := hpS (t := p + 1) (by omega)
          obtain ⟨o1, o2, o3, o4⟩ := hSm.own _ _ _ hbt hus
          simp only at o1
          have hpb : p + 1 < bs.length := by omega
          have hra := known_writes hki i.a (by simp [writesI, h3])
          simp -dsimp (maxDischargeDepth := 9) only [go_sem, Nat.reduceBEq, Nat.reduceLT, Nat.reduceAdd, Nat.reduceSub, Nat.reduceMul, Nat.reduceLeDiff, Int.reduceLE, Int.toNat_natCast, Int.natCast_nonneg, List.getElem?_map, List.length_map, Nat.zero_add, eq_self, Bool.not_true, Bool.not_false, h2, q9, Ins.cs, hwp, qo, hbt, hpb, unraw_own o1]
          refine newV_intro (fun bn vn hbn hnn hmn hvn => ?_)
          have qn : eqn bo bn = false := hnn bo (by rw [qo]; rfl)
          have qn9 : eqn b9 bn = false := hnn b9 (by rw [q9]; rfl)
          simp -dsimp (maxDischargeDepth := 9) only [go_sem, Nat.reduceBEq, Nat.reduceLT, Nat.reduceAdd, Nat.reduceSub, Nat.reduceMul, Nat.reduceLeDiff, Int.reduceLE, Int.toNat_natCast, Int.natCast_nonneg, List.getElem?_map, List.length_map, Nat.zero_add, eq_self, Bool.not_true, Bool.not_false, qn, qn9, q9, Ins.cs, qo, hbt, hpb, unraw_own o1]
          refine ACall.frz [false, false, true] ?_
          simp -dsimp (maxDischargeDepth := 9) only [go_sem, Nat.reduceBEq, Nat.reduceLT, Nat.reduceAdd, Nat.reduceSub, Nat.reduceMul, Nat.reduceLeDiff, Int.reduceLE, Int.toNat_natCast, Int.natCast_nonneg, List.getElem?_map, List.length_map, Nat.zero_add, eq_self, Bool.not_true, Bool.not_false]
          refine ACall.le (G := G1) ?_ (leH_upd hbn (leH_upd hbn (.refl _)))
          have e : D.slice [D.int .i64 i.a] = ints [i.a] := rfl
          rw [e]
          refine add_m hSm hbt hus hws0 ⟨hul, huo⟩ hW1 (by simp) (fun r hr => by simp at hr; subst hr; exact ⟨hra.1, by omega⟩) (fun b G2 hS2 => ?_)
          have hhas := hasW_add (ws := List.replicate W 0) (us := us) (but := [i.a]) (by simp [hul]) (fun r hr => by simp at hr; subst hr; exact hra.1)
          simp -dsimp (maxDischargeDepth := 9) only [go_sem, Nat.reduceBEq, Nat.reduceLT, Nat.reduceAdd, Nat.reduceSub, Nat.reduceMul, Nat.reduceLeDiff, Int.reduceLE, Int.toNat_natCast, Int.natCast_nonneg, List.getElem?_map, List.length_map, Nat.zero_add, eq_self, Bool.not_true, Bool.not_false]
          exact key _ G2 (addW_both [i.a] hws0 ⟨hul, huo⟩) (fun h => absurd h3 h) (fun _ r hr => by
            rw [hhas, hasW_zero, Bool.false_or, Bool.and_eq_true] at hr
            exact ⟨LiveIs.bit hbit hus hr.1, by simpa using hr.2⟩) (fun h => by rw [h3] at h; cases h) hS2
        · have h3 : i.op ≠ 3 := by simpa using h2
          simp -dsimp (maxDischargeDepth := 9) only [go_sem, Nat.reduceBEq, Nat.reduceLT, Nat.reduceAdd, Nat.reduceSub, Nat.reduceMul, Nat.reduceLeDiff, Int.reduceLE, Int.toNat_natCast, Int.natCast_nonneg, List.getElem?_map, List.length_map, Nat.zero_add, eq_self, Bool.not_true, Bool.not_false, h2, q9, Ins.cs]
          refine gif_split (fun h4 => ?_) (fun h4 => ?_)
          · have h10 : i.op = 10 := by simpa using h4
            have hin := hgr ((p : Int) + 1) (by by_cases hl : i.l = -1 <;> simp [goesI, h10, testsI, hl])
            obtain ⟨bt, vt, us, hbt, hus, hul, huo⟩ := hpS (t := p + 1) (by omega)
            obtain ⟨o1, o2, o3, o4⟩ := hSm.own _ _ _ hbt hus
            simp only at o1
            have hpb : p + 1 < bs.length := by omega
            have hwr : ∀ r ∈ i.outs, 0 ≤ r ∧ r.toNat < c.regs.length := by
              have := known_writes hki
              simpa [writesI, h10] using this
            simp -dsimp (maxDischargeDepth := 9) only [go_sem, Nat.reduceBEq, Nat.reduceLT, Nat.reduceAdd, Nat.reduceSub, Nat.reduceMul, Nat.reduceLeDiff, Int.reduceLE, Int.toNat_natCast, Int.natCast_nonneg, List.getElem?_map, List.length_map, Nat.zero_add, eq_self, Bool.not_true, Bool.not_false, h4, q9, Ins.cs, hwp, qo, hbt, hpb, unraw_own o1]
            refine add_m hSm hbt hus hws0 ⟨hul, huo⟩ hW1 hiok.2.1 (fun r hr => ⟨(hwr r hr).1, by have := (hwr r hr).2; omega⟩) (fun b G2 hS2 => ?_)
            have hw2 := addW_both i.outs hws0 ⟨hul, huo⟩
            generalize addW (List.replicate W 0) us i.outs = ws2 at hS2 hw2
            obtain ⟨r9, r1, ro⟩ := hb91 hS2
            clear hbt hus o1 o2 o3 o4 hul huo
            refine (fun (key2 : ∀ ws G2, ws.length = W ∧ wordsOk ws → SetsAt (upd (upd (upd B b7 (.arr 40 9 v7 (nb.map Ins.d ++ List.replicate (c.body.length - p) zIns.d))) b9 (.var (i.cs.map .d))) bm (.arr 89 1 vm (wordsD ws))) bo vo bs wss G2 → (?T2 : Heap → Prop) G2) => ?main2) ?rest2
            case main2 =>
              simp -dsimp (maxDischargeDepth := 9) only [go_sem, Nat.reduceBEq, Nat.reduceLT, Nat.reduceAdd, Nat.reduceSub, Nat.reduceMul, Nat.reduceLeDiff, Int.reduceLE, Int.toNat_natCast, Int.natCast_nonneg, List.getElem?_map, List.length_map, Nat.zero_add, eq_self, Bool.not_true, Bool.not_false, r9, Ins.cs]
              refine gif_split (fun h5 => ?_) (fun h5 => ?_)
              · have h5' : 0 ≤ i.l := by simpa using h5
                have hil := hgr i.l (by
                  have : i.l ≠ -1 := by omega
                  simp [goesI, h10, testsI, this])
                obtain ⟨t, htl⟩ : ∃ t : Nat, i.l = t := ⟨i.l.toNat, by omega⟩
                obtain ⟨bt, vt, us, hbt, hus, hul, huo⟩ := hpS (t := t) (by omega)
                obtain ⟨o1, o2, o3, o4⟩ := hS2.own _ _ _ hbt hus
                simp only at o1
                have hpb : t < bs.length := by omega
                rw [htl] at h5
                simp -dsimp (maxDischargeDepth := 9) only [go_sem, Nat.reduceBEq, Nat.reduceLT, Nat.reduceAdd, Nat.reduceSub, Nat.reduceMul, Nat.reduceLeDiff, Int.reduceLE, Int.toNat_natCast, Int.natCast_nonneg, List.getElem?_map, List.length_map, Nat.zero_add, eq_self, Bool.not_true, Bool.not_false, h5, r9, Ins.cs, htl, ro, hbt, hpb, unraw_own o1]
                refine ACall.frz [false, false, true] ?_
                simp -dsimp (maxDischargeDepth := 9) only [go_sem, Nat.reduceBEq, Nat.reduceLT, Nat.reduceAdd, Nat.reduceSub, Nat.reduceMul, Nat.reduceLeDiff, Int.reduceLE, Int.toNat_natCast, Int.natCast_nonneg, List.getElem?_map, List.length_map, Nat.zero_add, eq_self, Bool.not_true, Bool.not_false]
                have e : D.slice [] = ints [] := rfl
                rw [e]
                refine add_m hS2 hbt hus hw2 ⟨hul, huo⟩ hW1 (by simp) (fun r hr => by simp at hr) (fun b G3 hS3 => ?_)
                simp -dsimp (maxDischargeDepth := 9) only [go_sem, Nat.reduceBEq, Nat.reduceLT, Nat.reduceAdd, Nat.reduceSub, Nat.reduceMul, Nat.reduceLeDiff, Int.reduceLE, Int.toNat_natCast, Int.natCast_nonneg, List.getElem?_map, List.length_map, Nat.zero_add, eq_self, Bool.not_true, Bool.not_false]
                exact key2 _ G3 (addW_both [] hw2 ⟨hul, huo⟩) hS3
              · simp -dsimp (maxDischargeDepth := 9) only [go_sem, Nat.reduceBEq, Nat.reduceLT, Nat.reduceAdd, Nat.reduceSub, Nat.reduceMul, Nat.reduceLeDiff, Int.reduceLE, Int.toNat_natCast, Int.natCast_nonneg, List.getElem?_map, List.length_map, Nat.zero_add, eq_self, Bool.not_true, Bool.not_false, h5]
                exact key2 ws2 G2 hw2 hS2
            case rest2 =>
              clear hS2 r9 r1 ro hw2
              intro ws2 G2 hw2 hS2
              have fin : ∀ ws G2, ws.length = W ∧ wordsOk ws → SetsAt (upd (upd (upd B b7 (.arr 40 9 v7 (nb.map Ins.d ++ List.replicate (c.body.length - p) zIns.d))) b9 (.var (i.cs.map .d))) bm (.arr 89 1 vm (wordsD ws))) bo vo bs wss G2 → _ := fun ws G2 hw hS2 =>
                key ws G2 hw (fun _ h => absurd h10 h) (fun h => absurd h h3) (fun h => by rw [h10] at h; cases h) hS2
              obtain ⟨r9, r1, ro⟩ := hb91 hS2
              obtain ⟨g, hg⟩ : ∃ x, gs[p]? = some x := ⟨gs[p]'(by rw [hgl]; exact hpl), by simp [hgl, hpl]⟩
              obtain ⟨hgtr, hgln⟩ := hgt g (List.mem_of_getElem? hg)
              have hpg : p < gs.length := by omega
              simp -dsimp (maxDischargeDepth := 9) only [go_sem, Nat.reduceBEq, Nat.reduceLT, Nat.reduceAdd, Nat.reduceSub, Nat.reduceMul, Nat.reduceLeDiff, Int.reduceLE, Int.toNat_natCast, Int.natCast_nonneg, List.getElem?_map, List.length_map, Nat.zero_add, eq_self, Bool.not_true, Bool.not_false, intss, hg, hpg]
              refine gif_split (fun h5 => ?_) (fun h5 => ?_)
              · have hgne : g ≠ [] := by intro e; simp [e] at h5
                have hgpos : 0 < g.length := List.length_pos_iff.2 hgne
                obtain ⟨a, hlast⟩ : ∃ x, g[g.length - 1]? = some x := ⟨g[g.length - 1], by simp⟩
                obtain ⟨ha0, tr, htr, h16⟩ := hgtr a (List.mem_of_getElem? hlast)
                obtain ⟨a, rfl⟩ : ∃ m : Nat, a = m := ⟨a.toNat, by omega⟩
                rw [Int.toNat_natCast] at htr
                have hktr := hkn a tr htr
                have hgor := goes_range hktr tr.l (by simp [goesI, h16])
                obtain ⟨t, hlt⟩ : ∃ m : Nat, tr.l = m := ⟨tr.l.toNat, by omega⟩
                have htl : t < c.body.length := by omega
                have htra := known_try hktr h16
                have hwg : IntKind.i64.wrap ((g.length : Int) - 1) = ((g.length - 1 : Nat) : Int) := by rw [wrap64 (by omega) (by omega)]; omega
                have hgl1 : g.length - 1 < g.length := by omega
                have hal : a < c.body.length := (List.getElem?_eq_some_iff.1 htr).1
                obtain ⟨bt, vt, us, hbt, hus, hul, huo⟩ := hpS htl
                obtain ⟨o1, o2, o3, o4⟩ := hS2.own _ _ _ hbt hus
                simp only at o1
                have hpb : t < bs.length := by omega
                simp -dsimp (maxDischargeDepth := 9) only [go_sem, Nat.reduceBEq, Nat.reduceLT, Nat.reduceAdd, Nat.reduceSub, Nat.reduceMul, Nat.reduceLeDiff, Int.reduceLE, Int.toNat_natCast, Int.natCast_nonneg, List.getElem?_map, List.length_map, Nat.zero_add, eq_self, Bool.not_true, Bool.not_false, h5, r1, Cod.cs, hwg, hlast, htr, hgl1, hal, Ins.d, Ins.cs]
                refine newK_intro (fun b15 hb15 hn15 hm15 => ?_)
                have q15 : eqn bo b15 = false := hn15 bo (by rw [ro]; rfl)
                have q115 : eqn b1 b15 = false := hn15 b1 (by rw [r1]; rfl)
                simp -dsimp (maxDischargeDepth := 9) only [go_sem, Nat.reduceBEq, Nat.reduceLT, Nat.reduceAdd, Nat.reduceSub, Nat.reduceMul, Nat.reduceLeDiff, Int.reduceLE, Int.toNat_natCast, Int.natCast_nonneg, List.getElem?_map, List.length_map, Nat.zero_add, eq_self, Bool.not_true, Bool.not_false, upd_upd, q15, q115, r1, Cod.cs, hwg, hlast, htr, hgl1, hal, Ins.d, Ins.cs, ro, hlt, hbt, hpb, unraw_own o1]
                refine newV_intro (fun bn vn hbn hnn hmn hvn => ?_)
                have hbnG : G2 bn = none := (upd_eq_none.1 hbn).2
                have qn : eqn bo bn = false := hnn bo (by simp -dsimp (maxDischargeDepth := 9) only [go_sem, Nat.reduceBEq, Nat.reduceLT, Nat.reduceAdd, Nat.reduceSub, Nat.reduceMul, Nat.reduceLeDiff, Int.reduceLE, Int.toNat_natCast, Int.natCast_nonneg, List.getElem?_map, List.length_map, Nat.zero_add, eq_self, Bool.not_true, Bool.not_false, q15, ro])
                have qn15 : eqn b15 bn = false := hnn b15 (by simp -dsimp (maxDischargeDepth := 9) only [go_sem, Nat.reduceBEq, Nat.reduceLT, Nat.reduceAdd, Nat.reduceSub, Nat.reduceMul, Nat.reduceLeDiff, Int.reduceLE, Int.toNat_natCast, Int.natCast_nonneg, List.getElem?_map, List.length_map, Nat.zero_add, eq_self, Bool.not_true, Bool.not_false])
                simp -dsimp (maxDischargeDepth := 9) only [go_sem, Nat.reduceBEq, Nat.reduceLT, Nat.reduceAdd, Nat.reduceSub, Nat.reduceMul, Nat.reduceLeDiff, Int.reduceLE, Int.toNat_natCast, Int.natCast_nonneg, List.getElem?_map, List.length_map, Nat.zero_add, eq_self, Bool.not_true, Bool.not_false, qn, qn15, q15, ro, hbt, hpb, unraw_own o1]
                refine ACall.frz [false, false, true] ?_
                simp -dsimp (maxDischargeDepth := 9) only [go_sem, Nat.reduceBEq, Nat.reduceLT, Nat.reduceAdd, Nat.reduceSub, Nat.reduceMul, Nat.reduceLeDiff, Int.reduceLE, Int.toNat_natCast, Int.natCast_nonneg, List.getElem?_map, List.length_map, Nat.zero_add, eq_self, Bool.not_true, Bool.not_false]
                refine ACall.le (G := G2) ?_ (leH_upd hbnG (leH_upd hbnG (LeH.up (.refl _) hb15)))
                have e : D.slice [D.int .i64 tr.a] = ints [tr.a] := rfl
                rw [e]
                refine add_m hS2 hbt hus hw2 ⟨hul, huo⟩ hW1 (by simp) (fun r hr => by simp at hr; subst hr; exact ⟨htra.1, by omega⟩) (fun b G3 hS3 => ?_)
                simp -dsimp (maxDischargeDepth := 9) only [go_sem, Nat.reduceBEq, Nat.reduceLT, Nat.reduceAdd, Nat.reduceSub, Nat.reduceMul, Nat.reduceLeDiff, Int.reduceLE, Int.toNat_natCast, Int.natCast_nonneg, List.getElem?_map, List.length_map, Nat.zero_add, eq_self, Bool.not_true, Bool.not_false, intss]
                exact fin _ G3 (addW_both [tr.a] hw2 ⟨hul, huo⟩) hS3
              · simp -dsimp (maxDischargeDepth := 9) only [go_sem, Nat.reduceBEq, Nat.reduceLT, Nat.reduceAdd, Nat.reduceSub, Nat.reduceMul, Nat.reduceLeDiff, Int.reduceLE, Int.toNat_natCast, Int.natCast_nonneg, List.getElem?_map, List.length_map, Nat.zero_add, eq_self, Bool.not_true, Bool.not_false, h5]
                exact fin ws2 G2 hw2 hS2
          · have h10 : i.op ≠ 10 := by simpa using h4
            simp -dsimp (maxDischargeDepth := 9) only [go_sem, Nat.reduceBEq, Nat.reduceLT, Nat.reduceAdd, Nat.reduceSub, Nat.reduceMul, Nat.reduceLeDiff, Int.reduceLE, Int.toNat_natCast, Int.natCast_nonneg, List.getElem?_map, List.length_map, Nat.zero_add, eq_self, Bool.not_true, Bool.not_false, h4, q9, Ins.cs]
            refine gif_split (fun h5 => ?_) (fun h5 => ?_)
            · have h14 : i.op = 14 := by simpa using h5
              have hil := hgr i.l (by simp [goesI, h14])
              obtain ⟨t, htl⟩ : ∃ t : Nat, i.l = t := ⟨i.l.toNat, by omega⟩
              obtain ⟨bt, vt, us, hbt, hus, hul, huo⟩ := hpS (t := t) (by omega)
              obtain ⟨o1, o2, o3, o4⟩ := hSm.own _ _ _ hbt hus
              simp only at o1
              have hpb : t < bs.length := by omega
              simp -dsimp (maxDischargeDepth := 9) only [go_sem, Nat.reduceBEq, Nat.reduceLT, Nat.reduceAdd, Nat.reduceSub, Nat.reduceMul, Nat.reduceLeDiff, Int.reduceLE, Int.toNat_natCast, Int.natCast_nonneg, List.getElem?_map, List.length_map, Nat.zero_add, eq_self, Bool.not_true, Bool.not_false, h5, q9, Ins.cs, htl, qo, hbt, hpb, unraw_own o1]
              refine ACall.frz [false, false, true] ?_
              simp -dsimp (maxDischargeDepth := 9) only [go_sem, Nat.reduceBEq, Nat.reduceLT, Nat.reduceAdd, Nat.reduceSub, Nat.reduceMul, Nat.reduceLeDiff, Int.reduceLE, Int.toNat_natCast, Int.natCast_nonneg, List.getElem?_map, List.length_map, Nat.zero_add, eq_self, Bool.not_true, Bool.not_false]
              have e : D.slice [] = ints [] := rfl
              rw [e]
              refine add_m hSm hbt hus hws0 ⟨hul, huo⟩ hW1 (by simp) (fun r hr => by simp at hr) (fun b G2 hS2 => ?_)
              have hhas := hasW_add (ws := List.replicate W 0) (us := us) (but := []) (by simp [hul]) (fun r hr => by simp at hr)
              simp -dsimp (maxDischargeDepth := 9) only [go_sem, Nat.reduceBEq, Nat.reduceLT, Nat.reduceAdd, Nat.reduceSub, Nat.reduceMul, Nat.reduceLeDiff, Int.reduceLE, Int.toNat_natCast, Int.natCast_nonneg, List.getElem?_map, List.length_map, Nat.zero_add, eq_self, Bool.not_true, Bool.not_false]
              exact key _ G2 (addW_both [] hws0 ⟨hul, huo⟩) (fun _ _ h => absurd h14 h) (fun h => by rw [h14] at h; cases h) (fun _ r hr => by
                rw [hhas, hasW_zero, Bool.false_or, Bool.and_eq_true] at hr
                exact ⟨t, htl, LiveIs.bit hbit hus hr.1⟩) hS2
            · have h14 : i.op ≠ 14 := by simpa using h5
              simp -dsimp (maxDischargeDepth := 9) only [go_sem, Nat.reduceBEq, Nat.reduceLT, Nat.reduceAdd, Nat.reduceSub, Nat.reduceMul, Nat.reduceLeDiff, Int.reduceLE, Int.toNat_natCast, Int.natCast_nonneg, List.getElem?_map, List.length_map, Nat.zero_add, eq_self, Bool.not_true, Bool.not_false, h5]
              exact key _ G1 hws0 (fun _ _ _ => rfl) (fun h => absurd h h3) (fun h => absurd h h14) hSm
      case rest =>
        clear hSm q9 q1 qo
        intro ws G2 hw h0 h3 h14 hS2
        obtain ⟨r9, r1, ro⟩ := hb91 hS2
        have hGm := hS2.le bm _ (upd_same ..)
        have hS9 := hS2.down (by rw [upd_ne _ _ (Ne.symm (of_decide_eq_false e9m))] at hBm ⊢; exact hBm)
        refine list_ok G2 bm vm ws hGm hw.2 (by omega) _ ?_
        have e79 : eqn b7 b9 = false := eqn_ne (by rintro rfl; rw [upd_same] at hB9; cases hB9)
        have hG7 : G2 b7 = some (.arr 40 9 v7 (nb.map Ins.d ++ List.replicate (c.body.length - p) zIns.d)) := hS9.le _ _ (by rw [upd_ne _ _ (of_decide_eq_false e79)]; exact upd_same ..)
        obtain ⟨m, hm⟩ : ∃ m, c.body.length - p = m + 1 := ⟨c.body.length - p - 1, by omega⟩
        have hget : (nb.map Ins.d ++ List.replicate (c.body.length - p) zIns.d)[p]? = some (.agg [.int .i64 0, .int .i64 0, .int .i64 0, .int .i64 0, .int .i64 0, .int .i64 0, .slice [], .slice [], .slice []]) := by
          rw [List.getElem?_append_right (by simp [hp]), List.length_map, hp, Nat.sub_self, hm]; rfl
        have hrl : p < (nb.map Ins.d ++ List.replicate (c.body.length - p) zIns.d).length := by simp; omega
        simp -dsimp (maxDischargeDepth := 9) only [go_sem, Nat.reduceBEq, Nat.reduceLT, Nat.reduceAdd, Nat.reduceSub, Nat.reduceMul, Nat.reduceLeDiff, Int.reduceLE, Int.toNat_natCast, Int.natCast_nonneg, List.getElem?_map, List.length_map, Nat.zero_add, eq_self, Bool.not_true, Bool.not_false, r9, Ins.cs, e79, hG7, hget, hrl, hwp]
        have hS1 := hS9.base (b := b9) (o' := .var (Ins.cs { i with live := listW ws } |>.map .d)) (upd_same ..)
        rw [upd_upd] at hS1
        have hS2 := hS1.down hB9
        have hS3 := hS2.base (b := b7) (o' := .arr 40 9 v7 ((nb.map Ins.d ++ List.replicate (c.body.length - p) zIns.d).set p (Ins.d { i with live := listW ws }))) (upd_same ..)
        rw [upd_upd] at hS3
        have hset : (nb.map Ins.d ++ List.replicate (c.body.length - p) zIns.d).set p (Ins.d { i with live := listW ws }) = (nb ++ [{ i with live := listW ws }]).map Ins.d ++ List.replicate (c.body.length - (p + 1)) zIns.d := by
          rw [List.set_append_right _ _ (by simp [hp]), List.length_map, hp, Nat.sub_self, hm, List.replicate_succ, List.set_cons_zero]
          have : c.body.length - (p + 1) = m := by omega
          simp [this]
        refine roundQ_next (nb ++ [{ i with live := listW ws }]) _ ⟨by simp; omega, ?_, ?_⟩ (by simp only [List.length_append, List.length_singleton]; omega) (by
          have : (nb ++ [{ i with live := listW ws }]).length = p + 1 := by simp [hp]
          simp -dsimp (maxDischargeDepth := 9) only [go_sem, Nat.reduceBEq, Nat.reduceLT, Nat.reduceAdd, Nat.reduceSub, Nat.reduceMul, Nat.reduceLeDiff, Int.reduceLE, Int.toNat_natCast, Int.natCast_nonneg, List.getElem?_map, List.length_map, Nat.zero_add, eq_self, Bool.not_true, Bool.not_false, this, intss]) (.refl _)
        · intro q i' hq
          by_cases e : q < nb.length
          · rw [List.getElem?_append_left e] at hq
            exact hnb q i' hq
          · have hql := (List.getElem?_eq_some_iff.1 hq).1
            simp only [List.length_append, List.length_singleton] at hql
            obtain rfl : q = p := by omega
            rw [List.getElem?_append_right (by omega), hp, Nat.sub_self] at hq
            simp at hq
            subst hq
            refine ⟨i, hi, rfl, ?_, ?_, ?_, ?_⟩
            · intro a1 a2 a3
              simp only [h0 a1 a2 a3, listW, listTo_zero]
            · intro a1 x hx
              simp only [listW, listTo_mem] at hx
              obtain ⟨r, rfl, _, hr⟩ := hx
              exact ⟨r, rfl, h3 a1 r hr⟩
            · intro a1 x hx
              simp only [listW, listTo_mem] at hx
              obtain ⟨r, rfl, _, hr⟩ := hx
              obtain ⟨t, ht, hl⟩ := h14 a1 r hr
              exact ⟨r, t, rfl, ht, hl⟩
            · simp only [listW]
              have := listTo_length ws (ws.length * 64)
              have := hw.1
              omega
        · have : (nb ++ [{ i with live := listW ws }]).length = p + 1 := by simp [hp]
          rw [this, ← hset]
          exact hS3
    · have hpn : p = c.body.length := by simp at h1; omega
      subst hpn
      rw [Nat.sub_self, List.replicate_zero, List.append_nil] at hS
      have hG1 : G b1 = some (.var (c.cs.map .d)) := hS.le _ _ (by rw [upd_ne _ _ (of_decide_eq_false e17)]; exact hB1)
      have hG2 : G b2 = some (.var [.d (.str ⟨#[]⟩), .nils, .nils, .d (.int .i64 0), .nils, .nils]) := hS.le _ _ (by rw [upd_ne _ _ (of_decide_eq_false e27)]; exact hB2)
      have hG7 : G b7 = some (.arr 40 9 v7 (nb.map Ins.d)) := hS.le _ _ (upd_same ..)
      have e71 : eqn b7 b1 = false := eqn_ne (Ne.symm (of_decide_eq_false e17))
      have e72 : eqn b7 b2 = false := eqn_ne (Ne.symm (of_decide_eq_false e27))
      simp -dsimp (maxDischargeDepth := 9) only [go_sem, Nat.reduceBEq, Nat.reduceLT, Nat.reduceAdd, Nat.reduceSub, Nat.reduceMul, Nat.reduceLeDiff, Int.reduceLE, Int.toNat_natCast, Int.natCast_nonneg, List.getElem?_map, List.length_map, Nat.zero_add, eq_self, Bool.not_true, Bool.not_false, hG1, Cod.cs, hG2, h12, h21, e17, e27, e71, e72]
      refine retW_tup [true, true] ?_
      simp -dsimp (maxDischargeDepth := 9) only [go_sem, Nat.reduceBEq, Nat.reduceLT, Nat.reduceAdd, Nat.reduceSub, Nat.reduceMul, Nat.reduceLeDiff, Int.reduceLE, Int.toNat_natCast, Int.natCast_nonneg, List.getElem?_map, List.length_map, Nat.zero_add, eq_self, Bool.not_true, Bool.not_false, hG7, e71, e72]
      refine retW_drop (G := H) ?_ (retW_is (hK _ _ (.yes gs nb hr hp hnb)))
      have hBG : LeH H G := (LeH.up hleB hB7).trans hS.le
      refine leH_upd ?_ (leH_upd hb2H (leH_upd hb1H hBG))
      exact LeH.free hleB hB7

end Go.Aug

/- LiveMore: a register that nothing reads changes nothing. -/
namespace Go.Aug
open Go.Proofs
set_option maxRecDepth 100000
set_option linter.unusedSimpArgs false
attribute [local irreducible] hid andK letA onSome onVar onArr arrOnly onInt onBool onFunc onTup idxA ldV ldD addO ofPart appTo fillL slA srcK nilQ retW gif sgd sguard svc sops sdops sagain aopO aLoad aStore aBin aUn aConv aLen aIndexAddr aIndex aSlice aAppend aBuild aBuildSlice aMakeSlice aField aFieldOf aCallOp deepK deepL frzM putE newK newV growV ACall roundQ thenQ inBlockQ sret cnd szs nilC
attribute [local go_sem] Int.natCast_zero

def Cod.more (c : Cod) : Cod := { c with regs := c.regs ++ [exTy.d] }

theorem readsI_more (c : Cod) (i : Ins) : readsI c.more i = readsI c i := rfl
theorem badI_mono {n m : Nat} (h : n ≤ m) {r : Int} (hb : badI n r = false) : badI m r = false := by
  simp only [badI, Bool.or_eq_false_iff, decide_eq_false_iff_not] at hb ⊢
  omega
theorem any_false {l : List Int} {n m : Nat} (h : n ≤ m) (ha : l.any (fun r => badI n r) = false) : l.any (fun r => badI m r) = false := by
  rw [List.any_eq_false] at ha ⊢
  intro x hx
  have := ha x hx
  rw [Bool.not_eq_true] at this ⊢
  exact badI_mono h this
theorem knownI_more {c : Cod} {k : Nat} {i : Ins} (h : knownI c k i = true) : knownI c.more k i = true := by
  have hl : c.regs.length ≤ c.more.regs.length := by simp [Cod.more]
  simp only [knownI, Bool.and_eq_true, Bool.not_eq_true'] at h ⊢
  obtain ⟨⟨⟨h1, h2⟩, h3⟩, h4⟩ := h
  refine ⟨⟨⟨?_, h2⟩, any_false hl h3⟩, any_false hl h4⟩
  simp only [Bool.or_eq_false_iff, Bool.and_eq_false_iff] at h1 ⊢
  exact ⟨h1.1, h1.2.imp id (badI_mono hl)⟩
theorem flow_more {c : Cod} {gs : List (List Int)} (h : FlowIs c (some gs)) : FlowIs c.more (some gs) := by
  cases h with
  | run _ hb hr =>
    refine .run _ ?_ hr
    rintro (h | h | h | ⟨k, i, hi, h⟩)
    · exact hb (.inl h)
    · exact hb (.inr (.inl (by simp [Cod.more] at h; omega)))
    · exact hb (.inr (.inr (.inl h)))
    · rw [knownI_more (flowBad_known hb k i hi)] at h; cases h
theorem live_more {c : Cod} {gs : List (List Int)} {p r : Nat} (h : LiveAt c gs p r) : LiveAt c.more gs p r := by
  induction h with
  | reads p i r h hi hr => exact .reads p i r h hi hr
  | goes p i k t but r h hi ht hb _ hr ih => exact .goes p i k t but r h hi ht hb ih hr
  | guard p i g a tr t r h hi hra hg ha htr ht _ hr ih => exact .guard p i g a tr t r h hi hra hg ha htr ht ih hr
theorem live_less {c : Cod} {gs : List (List Int)} {p r : Nat} (h : LiveAt c.more gs p r) : LiveAt c gs p r := by
  induction h with
  | reads p i r h hi hr => exact .reads p i r h hi hr
  | goes p i k t but r h hi ht hb _ hr ih => exact .goes p i k t but r h hi ht hb ih hr
  | guard p i g a tr t r h hi hra hg ha htr ht _ hr ih => exact .guard p i g a tr t r h hi hra hg ha htr ht ih hr

theorem lists_more {c : Cod} {gs a b : List (List Int)} (ha : LiveIs c gs a) (hb : LiveIs c.more gs b) : a = b := by
  apply List.ext_getElem
  · rw [ha.len, hb.len]; rfl
  · intro k h1 h2
    refine rise_ext (ha.rise _ (List.getElem_mem h1)) (hb.rise _ (List.getElem_mem h2)) fun x => ?_
    rw [ha.mem k _ (List.getElem?_eq_getElem h1), hb.mem k _ (List.getElem?_eq_getElem h2)]
    exact ⟨fun ⟨r, e, h⟩ => ⟨r, e, live_more h⟩, fun ⟨r, e, h⟩ => ⟨r, e, live_less h⟩⟩

set_option maxHeartbeats 8000000 in
theorem liveMore_ok {eb : Nat → Addr} (H : Heap) (c : Cod) (hty : CodTy c) (K : A → Heap → Prop) (hK : K (.d (.bool true)) H) : ACall Tryd.prog (seatV eb) 5 [.d c.d] H K := by
  refine ACall.by mixed fn5 (by simp) ?_
  conv in s5 => cbv
  refine svc_start ?_
  simp -dsimp (maxDischargeDepth := 9) only [go_sem, Nat.reduceBEq, Nat.reduceLT, Nat.reduceAdd, Nat.reduceSub, Nat.reduceMul, Nat.reduceLeDiff, Int.reduceLE, Int.toNat_natCast, Int.natCast_nonneg, List.getElem?_map, List.length_map, Nat.zero_add, eq_self, Bool.not_true, Bool.not_false, Cod.d, Cod.cs]
  refine newK_intro (fun b1 hb1 hn1 hm1 => ?_)
  have hle1 : ∀ o, LeH H (upd H b1 o) := fun o => leH_upd hb1 (.refl _)
  simp -dsimp (maxDischargeDepth := 9) only [go_sem, Nat.reduceBEq, Nat.reduceLT, Nat.reduceAdd, Nat.reduceSub, Nat.reduceMul, Nat.reduceLeDiff, Int.reduceLE, Int.toNat_natCast, Int.natCast_nonneg, List.getElem?_map, List.length_map, Nat.zero_add, eq_self, Bool.not_true, Bool.not_false]
  refine alive_ok _ _ ?_
  simp -dsimp (maxDischargeDepth := 9) only [go_sem, Nat.reduceBEq, Nat.reduceLT, Nat.reduceAdd, Nat.reduceSub, Nat.reduceMul, Nat.reduceLeDiff, Int.reduceLE, Int.toNat_natCast, Int.natCast_nonneg, List.getElem?_map, List.length_map, Nat.zero_add, eq_self, Bool.not_true, Bool.not_false]
  refine inForm_ok _ c hty _ (fun bf hbf => ?_)
  simp -dsimp (maxDischargeDepth := 9) only [go_sem, Nat.reduceBEq, Nat.reduceLT, Nat.reduceAdd, Nat.reduceSub, Nat.reduceMul, Nat.reduceLeDiff, Int.reduceLE, Int.toNat_natCast, Int.natCast_nonneg, List.getElem?_map, List.length_map, Nat.zero_add, eq_self, Bool.not_true, Bool.not_false]
  cases bf with
  | false =>
    simp -dsimp (maxDischargeDepth := 9) only [go_sem, Nat.reduceBEq, Nat.reduceLT, Nat.reduceAdd, Nat.reduceSub, Nat.reduceMul, Nat.reduceLeDiff, Int.reduceLE, Int.toNat_natCast, Int.natCast_nonneg, List.getElem?_map, List.length_map, Nat.zero_add, eq_self, Bool.not_true, Bool.not_false]
    exact retW_drop (hle1 _) (retW_is hK)
  | true =>
    obtain ⟨hform, hsmall⟩ := hbf rfl
    obtain ⟨hcok, hrd⟩ := CodOk.of hform hsmall
    simp -dsimp (maxDischargeDepth := 9) only [go_sem, Nat.reduceBEq, Nat.reduceLT, Nat.reduceAdd, Nat.reduceSub, Nat.reduceMul, Nat.reduceLeDiff, Int.reduceLE, Int.toNat_natCast, Int.natCast_nonneg, List.getElem?_map, List.length_map, Nat.zero_add, eq_self, Bool.not_true, Bool.not_false]
    refine gif_split (fun h1 => ?_) (fun h1 => ?_)
    · simp -dsimp (maxDischargeDepth := 9) only [go_sem, Nat.reduceBEq, Nat.reduceLT, Nat.reduceAdd, Nat.reduceSub, Nat.reduceMul, Nat.reduceLeDiff, Int.reduceLE, Int.toNat_natCast, Int.natCast_nonneg, List.getElem?_map, List.length_map, Nat.zero_add, eq_self, Bool.not_true, Bool.not_false, h1]
      exact retW_drop (hle1 _) (retW_is hK)
    simp -dsimp (maxDischargeDepth := 9) only [go_sem, Nat.reduceBEq, Nat.reduceLT, Nat.reduceAdd, Nat.reduceSub, Nat.reduceMul, Nat.reduceLeDiff, Int.reduceLE, Int.toNat_natCast, Int.natCast_nonneg, List.getElem?_map, List.length_map, Nat.zero_add, eq_self, Bool.not_true, Bool.not_false, h1]
    refine live_ok _ c hcok hrd (by omega) _ (fun a e1 hL1 => ?_)
    simp -dsimp (maxDischargeDepth := 9) only [go_sem, Nat.reduceBEq, Nat.reduceLT, Nat.reduceAdd, Nat.reduceSub, Nat.reduceMul, Nat.reduceLeDiff, Int.reduceLE, Int.toNat_natCast, Int.natCast_nonneg, List.getElem?_map, List.length_map, Nat.zero_add, eq_self, Bool.not_true, Bool.not_false]
    refine newK_intro (fun b5 hb5 hn5 hm5 => ?_)
    have e15 : eqn b1 b5 = false := hn5 b1 (by simp -dsimp (maxDischargeDepth := 9) only [go_sem, Nat.reduceBEq, Nat.reduceLT, Nat.reduceAdd, Nat.reduceSub, Nat.reduceMul, Nat.reduceLeDiff, Int.reduceLE, Int.toNat_natCast, Int.natCast_nonneg, List.getElem?_map, List.length_map, Nat.zero_add, eq_self, Bool.not_true, Bool.not_false])
    have hB5 : upd H b1 (.var (c.cs.map .d)) b5 = none := hb5
    have hleG0 : LeH (upd H b1 (.var (c.cs.map .d))) (upd (upd H b1 (.var (c.cs.map .d))) b5 (.var (c.cs.map .d))) := LeH.up (.refl _) hB5
    have hG01 : upd (upd H b1 (.var (c.cs.map .d))) b5 (.var (c.cs.map .d)) b1 = some (.var (c.cs.map .d)) := by simp -dsimp (maxDischargeDepth := 9) only [go_sem, Nat.reduceBEq, Nat.reduceLT, Nat.reduceAdd, Nat.reduceSub, Nat.reduceMul, Nat.reduceLeDiff, Int.reduceLE, Int.toNat_natCast, Int.natCast_nonneg, List.getElem?_map, List.length_map, Nat.zero_add, eq_self, Bool.not_true, Bool.not_false, e15]
    have hG05 : upd (upd H b1 (.var (c.cs.map .d))) b5 (.var (c.cs.map .d)) b5 = some (.var (c.cs.map .d)) := upd_same ..
    have hsz : szs 4 c.regs = True := by
      obtain ⟨rgs, hr⟩ := hty.regs
      rw [hr]; exact szs_ty rgs
    simp -dsimp (maxDischargeDepth := 9) only [go_sem, Nat.reduceBEq, Nat.reduceLT, Nat.reduceAdd, Nat.reduceSub, Nat.reduceMul, Nat.reduceLeDiff, Int.reduceLE, Int.toNat_natCast, Int.natCast_nonneg, List.getElem?_map, List.length_map, Nat.zero_add, eq_self, Bool.not_true, Bool.not_false, e15, upd_upd]
    have hcs : [A.d (.str c.name), .d (.slice c.types), .d (bools c.ins), .d (.int .i64 c.det), .d (.slice c.regs), .d (.slice (c.body.map Ins.d))] = c.cs.map A.d := rfl
    rw [hcs]
    generalize hG0 : upd (upd H b1 (.var (c.cs.map .d))) b5 (.var (c.cs.map .d)) = G0 at hleG0 hG01 hG05 ⊢
    refine newV_intro (fun b7 v7 hb7 hn7 hm7 hv7 => ?_)
    have e17 : eqn b1 b7 = false := hn7 b1 (by rw [hG01]; rfl)
    have hacc : AccAt G0 47 4 [] (.own b7 v7) (upd G0 b7 (.arr 47 4 v7 [])) := AccAt.own (LeH.up (.refl _) hb7) hb7 hv7 (upd_same ..)
    generalize A.own b7 v7 = a7 at hacc ⊢
    simp -dsimp (maxDischargeDepth := 9) only [go_sem, Nat.reduceBEq, Nat.reduceLT, Nat.reduceAdd, Nat.reduceSub, Nat.reduceMul, Nat.reduceLeDiff, Int.reduceLE, Int.toNat_natCast, Int.natCast_nonneg, List.getElem?_map, List.length_map, Nat.zero_add, eq_self, Bool.not_true, Bool.not_false, e17, hG01, Cod.cs, hsz]
    refine appTo_acc hacc ?_ (fun a8 H8 h8 => ?_)
    · simp; omega
    rw [List.nil_append] at h8
    simp -dsimp (maxDischargeDepth := 9) only [go_sem, Nat.reduceBEq, Nat.reduceLT, Nat.reduceAdd, Nat.reduceSub, Nat.reduceMul, Nat.reduceLeDiff, Int.reduceLE, Int.toNat_natCast, Int.natCast_nonneg, List.getElem?_map, List.length_map, Nat.zero_add, eq_self, Bool.not_true, Bool.not_false]
    refine newV_intro (fun b9 v9 hb9 hn9 hm9 hv9 => ?_)
    simp -dsimp (maxDischargeDepth := 9) only [go_sem, Nat.reduceBEq, Nat.reduceLT, Nat.reduceAdd, Nat.reduceSub, Nat.reduceMul, Nat.reduceLeDiff, Int.reduceLE, Int.toNat_natCast, Int.natCast_nonneg, List.getElem?_map, List.length_map, Nat.zero_add, eq_self, Bool.not_true, Bool.not_false]
    refine appTo_acc (h8.up hb9) ?_ (fun a10 H10 h10 => ?_)
    · simp; omega
    obtain ⟨b10, v10, rfl, hf10, hv10, hH10⟩ := h10.some (by simp)
    have hle10 := h10.le
    have hH5 : H10 b5 = some (.var (c.cs.map .d)) := hle10 _ _ hG05
    have e5 : eqn b10 b5 = false := eqn_ne (by rintro rfl; rw [hG05] at hf10; cases hf10)
    simp -dsimp (maxDischargeDepth := 9) only [go_sem, Nat.reduceBEq, Nat.reduceLT, Nat.reduceAdd, Nat.reduceSub, Nat.reduceMul, Nat.reduceLeDiff, Int.reduceLE, Int.toNat_natCast, Int.natCast_nonneg, List.getElem?_map, List.length_map, Nat.zero_add, eq_self, Bool.not_true, Bool.not_false, hH5, Cod.cs]
    refine ACall.frz [true] ?_
    simp -dsimp (maxDischargeDepth := 9) only [go_sem, Nat.reduceBEq, Nat.reduceLT, Nat.reduceAdd, Nat.reduceSub, Nat.reduceMul, Nat.reduceLeDiff, Int.reduceLE, Int.toNat_natCast, Int.natCast_nonneg, List.getElem?_map, List.length_map, Nat.zero_add, eq_self, Bool.not_true, Bool.not_false, e5, hH10]
    have hty' : D.agg [.int .i64 1, .str ⟨#[]⟩, .int .i64 0, .slice []] = exTy.d := by simp [exTy, Ty.d]
    rw [hty']
    refine ACall.le (G := upd H b1 (.var (c.cs.map .d))) ?_ (leH_upd (LeH.free hleG0 hf10) (leH_upd hB5 (hleG0.trans hle10)))
    clear hH10 hle10 hH5 e5 hf10 hv10 h10 hb9 hn9 hm9 h8 hacc hb7 hn7 hm7 e17 hG0 hG01 hG05 hleG0 hb5 hn5 hm5 hB5 e15
    have hmok : CodOk c.more := ⟨hcok.n, hcok.body, hcok.ins, by simp [Cod.more]; omega⟩
    refine live_ok _ c.more hmok hrd (by simp [Cod.more]; omega) _ (fun b e2 hL2 => ?_)
    simp -dsimp (maxDischargeDepth := 9) only [go_sem, Nat.reduceBEq, Nat.reduceLT, Nat.reduceAdd, Nat.reduceSub, Nat.reduceMul, Nat.reduceLeDiff, Int.reduceLE, Int.toNat_natCast, Int.natCast_nonneg, List.getElem?_map, List.length_map, Nat.zero_add, eq_self, Bool.not_true, Bool.not_false]
    cases hL1 with
    | no hf =>
      simp -dsimp (maxDischargeDepth := 9) only [go_sem, Nat.reduceBEq, Nat.reduceLT, Nat.reduceAdd, Nat.reduceSub, Nat.reduceMul, Nat.reduceLeDiff, Int.reduceLE, Int.toNat_natCast, Int.natCast_nonneg, List.getElem?_map, List.length_map, Nat.zero_add, eq_self, Bool.not_true, Bool.not_false]
      exact retW_drop (hle1 _) (retW_is hK)
    | yes gs a hf hL =>
      obtain ⟨hgood, hgl, hgt⟩ := hf.good
      have hkn := flowBad_known hgood
      have hns := hcok.n
      simp -dsimp (maxDischargeDepth := 9) only [go_sem, Nat.reduceBEq, Nat.reduceLT, Nat.reduceAdd, Nat.reduceSub, Nat.reduceMul, Nat.reduceLeDiff, Int.reduceLE, Int.toNat_natCast, Int.natCast_nonneg, List.getElem?_map, List.length_map, Nat.zero_add, eq_self, Bool.not_true, Bool.not_false]
      refine andK_split rfl ?_
      cases hL2 with
      | no hf2 => exact absurd (hf2.det (flow_more hf)) (by simp)
      | yes gs2 b hf2 hL2 =>
        have := hf2.det (flow_more hf)
        simp at this; subst this
        obtain rfl := lists_more hL hL2
        simp -dsimp (maxDischargeDepth := 9) only [go_sem, Nat.reduceBEq, Nat.reduceLT, Nat.reduceAdd, Nat.reduceSub, Nat.reduceMul, Nat.reduceLeDiff, Int.reduceLE, Int.toNat_natCast, Int.natCast_nonneg, List.getElem?_map, List.length_map, Nat.zero_add, eq_self, Bool.not_true, Bool.not_false]
        refine andK_split rfl ?_
        simp -dsimp (maxDischargeDepth := 9) only [go_sem, Nat.reduceBEq, Nat.reduceLT, Nat.reduceAdd, Nat.reduceSub, Nat.reduceMul, Nat.reduceLeDiff, Int.reduceLE, Int.toNat_natCast, Int.natCast_nonneg, List.getElem?_map, List.length_map, Nat.zero_add, eq_self, Bool.not_true, Bool.not_false]
        have hall : ∀ l ∈ a, l.length < 1099511627776 := by
          intro l hl
          obtain ⟨q, hq⟩ := List.getElem?_of_mem hl
          have := rise_length (hL.rise l hl) 0 64 (fun y hy => by
            obtain ⟨r, rfl, hr⟩ := (hL.mem q l hq y).1 hy
            have := hr.lt hkn
            omega)
          omega
        refine sameLists_ok _ a a (by rw [hL.len]; omega) hall _ ?_
        simp -dsimp (maxDischargeDepth := 9) only [go_sem, Nat.reduceBEq, Nat.reduceLT, Nat.reduceAdd, Nat.reduceSub, Nat.reduceMul, Nat.reduceLeDiff, Int.reduceLE, Int.toNat_natCast, Int.natCast_nonneg, List.getElem?_map, List.length_map, Nat.zero_add, eq_self, Bool.not_true, Bool.not_false, Cod.cs]
        refine maps_ok _ c hcok hrd (by omega) _ (fun m e hM => ?_)
        cases hM with
        | no hf3 => exact absurd (hf3.det hf) (by simp)
        | yes gs3 nb hf3 hnl hnb =>
          have := hf3.det hf
          simp at this; subst this
          clear hf3 hf2 hL2
          simp -dsimp (maxDischargeDepth := 9) only [go_sem, Nat.reduceBEq, Nat.reduceLT, Nat.reduceAdd, Nat.reduceSub, Nat.reduceMul, Nat.reduceLeDiff, Int.reduceLE, Int.toNat_natCast, Int.natCast_nonneg, List.getElem?_map, List.length_map, Nat.zero_add, eq_self, Bool.not_true, Bool.not_false, Cod.d, Cod.cs]
          refine newK_intro (fun b8 hb8 hn8 hm8 => ?_)
          have e18 : eqn b1 b8 = false := hn8 b1 (by simp -dsimp (maxDischargeDepth := 9) only [go_sem, Nat.reduceBEq, Nat.reduceLT, Nat.reduceAdd, Nat.reduceSub, Nat.reduceMul, Nat.reduceLeDiff, Int.reduceLE, Int.toNat_natCast, Int.natCast_nonneg, List.getElem?_map, List.length_map, Nat.zero_add, eq_self, Bool.not_true, Bool.not_false])
          simp -dsimp (maxDischargeDepth := 9) only [go_sem, Nat.reduceBEq, Nat.reduceLT, Nat.reduceAdd, Nat.reduceSub, Nat.reduceMul, Nat.reduceLeDiff, Int.reduceLE, Int.toNat_natCast, Int.natCast_nonneg, List.getElem?_map, List.length_map, Nat.zero_add, eq_self, Bool.not_true, Bool.not_false]
          refine andK_split rfl ?_
          simp -dsimp (maxDischargeDepth := 9) only [go_sem, Nat.reduceBEq, Nat.reduceLT, Nat.reduceAdd, Nat.reduceSub, Nat.reduceMul, Nat.reduceLeDiff, Int.reduceLE, Int.toNat_natCast, Int.natCast_nonneg, List.getElem?_map, List.length_map, Nat.zero_add, eq_self, Bool.not_true, Bool.not_false, upd_upd, e18, Cod.cs, hnl]
          have hle8 : ∀ o, LeH H (upd (upd H b1 (.var (c.cs.map .d))) b8 o) := fun o => leH_upd (LeH.free (hle1 _) hb8) (hle1 _)
          refine svc_loop (fun k : Nat => [(3, .d (intss a)), (74, .d (.slice (nb.map Ins.d))), (75, .d (.int .i64 nb.length)), (76, .d (.int .i64 k))]) (fun k G => k ≤ nb.length ∧ LeH H G) (fun k => nb.length - k) 0 _ ⟨Nat.zero_le _, hle8 _⟩ (by simp -dsimp (maxDischargeDepth := 9) only [go_sem, Nat.reduceBEq, Nat.reduceLT, Nat.reduceAdd, Nat.reduceSub, Nat.reduceMul, Nat.reduceLeDiff, Int.reduceLE, Int.toNat_natCast, Int.natCast_nonneg, List.getElem?_map, List.length_map, Nat.zero_add, eq_self, Bool.not_true, Bool.not_false, hnl]) (.refl _) ?_
          clear e18 hb8 hn8 hm8 hle8
          rintro p G ⟨hp, hle⟩
          simp -dsimp (maxDischargeDepth := 9) only [go_sem, Nat.reduceBEq, Nat.reduceLT, Nat.reduceAdd, Nat.reduceSub, Nat.reduceMul, Nat.reduceLeDiff, Int.reduceLE, Int.toNat_natCast, Int.natCast_nonneg, List.getElem?_map, List.length_map, Nat.zero_add, eq_self, Bool.not_true, Bool.not_false]
          refine gif_split (fun h2 => ?_) (fun h2 => ?_)
          · have hp' : p < nb.length := by simpa using h2
            have hwp := wrapS (k := p) (by omega)
            obtain ⟨i', hi'⟩ : ∃ i', nb[p]? = some i' := ⟨nb[p], by simp [hp']⟩
            obtain ⟨i, hi, hM⟩ := hnb p i' hi'
            have hki := hkn p i hi
            obtain ⟨l, hl⟩ : ∃ l, i' = { i with live := l } := ⟨_, hM.same⟩
            have hlv : i'.live = l := by rw [hl]
            have hnone := hM.none
            have hbuild := hM.build
            have hchoice := hM.choice
            have hshort := hM.short
            rw [hlv] at hnone hbuild hchoice hshort
            subst hl
            have hpl : p < c.body.length := (List.getElem?_eq_some_iff.1 hi).1
            simp -dsimp (maxDischargeDepth := 9) only [go_sem, Nat.reduceBEq, Nat.reduceLT, Nat.reduceAdd, Nat.reduceSub, Nat.reduceMul, Nat.reduceLeDiff, Int.reduceLE, Int.toNat_natCast, Int.natCast_nonneg, List.getElem?_map, List.length_map, Nat.zero_add, eq_self, Bool.not_true, Bool.not_false, hi', hp', Ins.d, Ins.cs]
            refine newK_intro (fun b11 hb11 hn11 hm11 => ?_)
            have hle11 : ∀ o, LeH H (upd G b11 o) := fun o => leH_upd (LeH.free hle hb11) hle
            have hG11 : ∀ o, upd G b11 o b11 = some o := fun o => upd_same ..
            simp -dsimp (maxDischargeDepth := 9) only [go_sem, Nat.reduceBEq, Nat.reduceLT, Nat.reduceAdd, Nat.reduceSub, Nat.reduceMul, Nat.reduceLeDiff, Int.reduceLE, Int.toNat_natCast, Int.natCast_nonneg, List.getElem?_map, List.length_map, Nat.zero_add, eq_self, Bool.not_true, Bool.not_false, upd_upd]
            refine (fun (key : (?T : Prop)) => ?main) ?rest
            case main =>
              repeat' (first | (refine gif_split (fun h => ?_) (fun h => ?_) <;> (try simp -dsimp (maxDischargeDepth := 9) only [go_sem, Nat.reduceBEq, Nat.reduceLT, Nat.reduceAdd, Nat.reduceSub, Nat.reduceMul, Nat.reduceLeDiff, Int.reduceLE, Int.toNat_natCast, Int.natCast_nonneg, List.getElem?_map, List.length_map, Nat.zero_add, eq_self, Bool.not_true, Bool.not_false, h, hG11])))
              all_goals try (
                refine svc_loop (fun j : Nat => [(3, .d (intss a)), (10, .d (.int .i64 p)), (11, .ref b11 0), (74, .d (.slice (nb.map Ins.d))), (75, .d (.int .i64 nb.length)), (76, .d (.int .i64 p)), (101, .d (ints l)), (102, .d (.int .i64 l.length)), (103, .d (.int .i64 j))])
                  (fun j G => j ≤ l.length ∧ LeH H G ∧ G b11 = some (.var (Ins.cs { i with live := l } |>.map .d))) (fun j => l.length - j) 0 _ ⟨Nat.zero_le _, hle11 _, hG11 _⟩ ?_ (.refl _) ?_
                rotate_right
                · exact key
                · simp -dsimp (maxDischargeDepth := 9) only [go_sem, Nat.reduceBEq, Nat.reduceLT, Nat.reduceAdd, Nat.reduceSub, Nat.reduceMul, Nat.reduceLeDiff, Int.reduceLE, Int.toNat_natCast, Int.natCast_nonneg, List.getElem?_map, List.length_map, Nat.zero_add, eq_self, Bool.not_true, Bool.not_false])
              all_goals
                exfalso
                have : l = [] := hnone (by simp_all) (by simp_all) (by simp_all)
                subst this
                simp_all
            case rest =>
              clear hle hle11 hG11 hb11 hn11 hm11
              rintro j G ⟨hj, hle, hG⟩
              simp -dsimp (maxDischargeDepth := 9) only [go_sem, Nat.reduceBEq, Nat.reduceLT, Nat.reduceAdd, Nat.reduceSub, Nat.reduceMul, Nat.reduceLeDiff, Int.reduceLE, Int.toNat_natCast, Int.natCast_nonneg, List.getElem?_map, List.length_map, Nat.zero_add, eq_self, Bool.not_true, Bool.not_false]
              refine gif_split (fun h3 => ?_) (fun h3 => ?_)
              · have hj' : j < l.length := by simpa using h3
                have hwj := wrapS (k := j) (by omega)
                obtain ⟨x, hx⟩ : ∃ x, l[j]? = some x := ⟨l[j], by simp [hj']⟩
                have hxm := List.mem_of_getElem? hx
                simp -dsimp (maxDischargeDepth := 9) only [go_sem, Nat.reduceBEq, Nat.reduceLT, Nat.reduceAdd, Nat.reduceSub, Nat.reduceMul, Nat.reduceLeDiff, Int.reduceLE, Int.toNat_natCast, Int.natCast_nonneg, List.getElem?_map, List.length_map, Nat.zero_add, eq_self, Bool.not_true, Bool.not_false, hx, hG, Ins.cs]
                refine gif_split (fun h4 => ?_) (fun h4 => ?_)
                · have h14 : i.op = 14 := by simpa using h4
                  have h14' : decide (i.op = 3) = false := by rw [h14]; rfl
                  obtain ⟨r, t, rfl, htl, hlv2⟩ := hchoice h14 x hxm
                  have htn : t < c.body.length := by
                    have := goes_range hki i.l (by simp [goesI, h14])
                    omega
                  obtain ⟨la, hla⟩ : ∃ y, a[t]? = some y := ⟨a[t]'(by rw [hL.len]; exact htn), by simp [hL.len, htn]⟩
                  have hal : t < a.length := by rw [hL.len]; exact htn
                  have hmem : la.contains (r : Int) = true := List.contains_iff_mem.2 ((hL.mem t la hla _).2 ⟨r, rfl, hlv2⟩)
                  simp -dsimp (maxDischargeDepth := 9) only [go_sem, Nat.reduceBEq, Nat.reduceLT, Nat.reduceAdd, Nat.reduceSub, Nat.reduceMul, Nat.reduceLeDiff, Int.reduceLE, Int.toNat_natCast, Int.natCast_nonneg, List.getElem?_map, List.length_map, Nat.zero_add, eq_self, Bool.not_true, Bool.not_false, h4, hG, Ins.cs, htl, intss, hla, hal]
                  refine in_ok _ la (r : Int) (hall la (List.mem_of_getElem? hla)) _ ?_
                  simp -dsimp (maxDischargeDepth := 9) only [go_sem, Nat.reduceBEq, Nat.reduceLT, Nat.reduceAdd, Nat.reduceSub, Nat.reduceMul, Nat.reduceLeDiff, Int.reduceLE, Int.toNat_natCast, Int.natCast_nonneg, List.getElem?_map, List.length_map, Nat.zero_add, eq_self, Bool.not_true, Bool.not_false, hmem, hG, Ins.cs, h14', hwj]
                  exact roundQ_next (j + 1) G ⟨by omega, hle, hG⟩ (by omega) (by simp -dsimp (maxDischargeDepth := 9) only [go_sem, Nat.reduceBEq, Nat.reduceLT, Nat.reduceAdd, Nat.reduceSub, Nat.reduceMul, Nat.reduceLeDiff, Int.reduceLE, Int.toNat_natCast, Int.natCast_nonneg, List.getElem?_map, List.length_map, Nat.zero_add, eq_self, Bool.not_true, Bool.not_false, intss]) (.refl _)
                · simp -dsimp (maxDischargeDepth := 9) only [go_sem, Nat.reduceBEq, Nat.reduceLT, Nat.reduceAdd, Nat.reduceSub, Nat.reduceMul, Nat.reduceLeDiff, Int.reduceLE, Int.toNat_natCast, Int.natCast_nonneg, List.getElem?_map, List.length_map, Nat.zero_add, eq_self, Bool.not_true, Bool.not_false, h4, hG, Ins.cs]
                  refine gif_split (fun h5 => ?_) (fun h5 => ?_)
                  · have h3' : i.op = 3 := by simpa using h5
                    obtain ⟨r, rfl, hlv2, hne⟩ := hbuild h3' x hxm
                    have hne' : decide ((r : Int) = i.a) = false := decide_eq_false hne
                    have htn : p + 1 < c.body.length := by
                      have := goes_range hki ((p : Int) + 1) (by simp [goesI, h3', testsI])
                      omega
                    obtain ⟨la, hla⟩ : ∃ y, a[p + 1]? = some y := ⟨a[p + 1]'(by rw [hL.len]; exact htn), by simp [hL.len, htn]⟩
                    have hal : p + 1 < a.length := by rw [hL.len]; exact htn
                    have hmem : la.contains (r : Int) = true := List.contains_iff_mem.2 ((hL.mem _ la hla _).2 ⟨r, rfl, hlv2⟩)
                    simp -dsimp (maxDischargeDepth := 9) only [go_sem, Nat.reduceBEq, Nat.reduceLT, Nat.reduceAdd, Nat.reduceSub, Nat.reduceMul, Nat.reduceLeDiff, Int.reduceLE, Int.toNat_natCast, Int.natCast_nonneg, List.getElem?_map, List.length_map, Nat.zero_add, eq_self, Bool.not_true, Bool.not_false, h5, hG, Ins.cs, hne', hwp, intss, hla, hal]
                    refine in_ok _ la (r : Int) (hall la (List.mem_of_getElem? hla)) _ ?_
                    simp -dsimp (maxDischargeDepth := 9) only [go_sem, Nat.reduceBEq, Nat.reduceLT, Nat.reduceAdd, Nat.reduceSub, Nat.reduceMul, Nat.reduceLeDiff, Int.reduceLE, Int.toNat_natCast, Int.natCast_nonneg, List.getElem?_map, List.length_map, Nat.zero_add, eq_self, Bool.not_true, Bool.not_false, hmem, hwj]
                    exact roundQ_next (j + 1) G ⟨by omega, hle, hG⟩ (by omega) (by simp -dsimp (maxDischargeDepth := 9) only [go_sem, Nat.reduceBEq, Nat.reduceLT, Nat.reduceAdd, Nat.reduceSub, Nat.reduceMul, Nat.reduceLeDiff, Int.reduceLE, Int.toNat_natCast, Int.natCast_nonneg, List.getElem?_map, List.length_map, Nat.zero_add, eq_self, Bool.not_true, Bool.not_false, intss]) (.refl _)
                  · simp -dsimp (maxDischargeDepth := 9) only [go_sem, Nat.reduceBEq, Nat.reduceLT, Nat.reduceAdd, Nat.reduceSub, Nat.reduceMul, Nat.reduceLeDiff, Int.reduceLE, Int.toNat_natCast, Int.natCast_nonneg, List.getElem?_map, List.length_map, Nat.zero_add, eq_self, Bool.not_true, Bool.not_false, h5, hwj]
                    exact roundQ_next (j + 1) G ⟨by omega, hle, hG⟩ (by omega) (by simp -dsimp (maxDischargeDepth := 9) only [go_sem, Nat.reduceBEq, Nat.reduceLT, Nat.reduceAdd, Nat.reduceSub, Nat.reduceMul, Nat.reduceLeDiff, Int.reduceLE, Int.toNat_natCast, Int.natCast_nonneg, List.getElem?_map, List.length_map, Nat.zero_add, eq_self, Bool.not_true, Bool.not_false, intss]) (.refl _)
              · simp -dsimp (maxDischargeDepth := 9) only [go_sem, Nat.reduceBEq, Nat.reduceLT, Nat.reduceAdd, Nat.reduceSub, Nat.reduceMul, Nat.reduceLeDiff, Int.reduceLE, Int.toNat_natCast, Int.natCast_nonneg, List.getElem?_map, List.length_map, Nat.zero_add, eq_self, Bool.not_true, Bool.not_false, hwp]
                exact roundQ_next (p + 1) G ⟨by omega, hle⟩ (by omega) (by simp -dsimp (maxDischargeDepth := 9) only [go_sem, Nat.reduceBEq, Nat.reduceLT, Nat.reduceAdd, Nat.reduceSub, Nat.reduceMul, Nat.reduceLeDiff, Int.reduceLE, Int.toNat_natCast, Int.natCast_nonneg, List.getElem?_map, List.length_map, Nat.zero_add, eq_self, Bool.not_true, Bool.not_false, intss]) (.refl _)
          · simp -dsimp (maxDischargeDepth := 9) only [go_sem, Nat.reduceBEq, Nat.reduceLT, Nat.reduceAdd, Nat.reduceSub, Nat.reduceMul, Nat.reduceLeDiff, Int.reduceLE, Int.toNat_natCast, Int.natCast_nonneg, List.getElem?_map, List.length_map, Nat.zero_add, eq_self, Bool.not_true, Bool.not_false]
            exact retW_drop hle (retW_is hK)

end Go.Aug
