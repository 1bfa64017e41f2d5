/- The contracts of the functions that LiveWays reaches, second part: live sets, reached places, form, the example; conditions stand in each contract. -/
import Derived.Test.YtilmlmncoghpfaaDoorLiveOne
import Derived.Test.YtilmlmncoghpfaaDoorAugFive
set_option linter.all false
set_option linter.unusedVariables false
set_option linter.unusedSimpArgs false
set_option linter.unusedSectionVars false

/- The guards at all places: the walk. -/
namespace Go.Aug
open Go.Proofs
set_option maxRecDepth 100000
set_option linter.unusedSimpArgs false
attribute [local irreducible] hid andK letA onSome onVar onArr arrOnly onInt onBool onFunc onTup idxA ldV ldD addO ofPart appTo fillL slA srcK nilQ retW gif sgd sguard svc sops sdops sagain aopO aLoad aStore aBin aUn aConv aLen aIndexAddr aIndex aSlice aAppend aBuild aBuildSlice aMakeSlice aField aFieldOf aCallOp deepK deepL frzM putE newK newV growV ACall roundQ thenQ inBlockQ sret cnd szs nilC

/-- What lies in memory while it is gone through. -/
def FHeap (H : Heap) (c : Cod) (b1 b5 : Nat) (v5 : Value) (b6 : Nat) (v6 : Value) (g : List (List Int)) (seen : List Bool) : Heap :=
  upd (upd (upd H b1 (.var (c.cs.map .d))) b5 (.arr 27 1 v5 (g.map ints))) b6 (.arr 4 1 v6 (seen.map .bool))

def flowBad (c : Cod) : Prop := c.body = [] ∨ c.regs.length < c.types.length ∨ c.ins.length ≠ c.types.length ∨ ∃ k i, c.body[k]? = some i ∧ knownI c k i = false
def flowStart (c : Cod) : FS := ⟨List.replicate c.body.length [], (List.replicate c.body.length false).set 0 true, [0]⟩
inductive FlowIs (c : Cod) : Option (List (List Int)) → Prop
  | bad (h : flowBad c) : FlowIs c none
  | run (r) (h : ¬ flowBad c) (hr : FRun c.body (flowStart c) r) : FlowIs c r

structure CodOk (c : Cod) : Prop where
  n : c.body.length < 1099511627776
  body : ∀ i ∈ c.body, i.ok
  ins : c.ins.length < 1099511627776
  regs : c.regs.length < 1099511627776

theorem readsI_length {c : Cod} {i : Ins} (hi : i.ok) (hc : c.ins.length < 1099511627776) : (readsI c i).length < 1099511627776 + 1 := by
  obtain ⟨h1, h2, h3⟩ := hi
  have := outsTo_length c.ins c.ins.length
  unfold readsI outs; repeat' split
  all_goals first | omega | (simp; omega) | simp

theorem retNone {V : Env} {H G : Heap} {K : A → Heap → Prop} (hle : LeH H G) (hK : K (.tup [.d (.slice []), .d (.bool false)]) H) : retW V (.tup [.nils, .d (.bool false)]) G K := by
  refine retW_tup [true, true] ?_
  simp -dsimp (maxDischargeDepth := 9) only [go_sem, Nat.reduceBEq, Nat.reduceLT, Nat.reduceAdd, Nat.reduceSub, Nat.reduceMul, Nat.reduceLeDiff, Int.reduceLE, Int.toNat_natCast, Int.natCast_nonneg, List.getElem?_map, List.length_map, Nat.zero_add, eq_self, Bool.not_true, Bool.not_false]
  exact retW_drop hle (retW_is hK)

theorem putE_deep {H : Heap} {a : A} {K : D → Heap → Prop} (h : deepK H a K) : putE H a K := by
  unfold putE; split
  · exact .inl h
  · exact h

theorem FHeap.acc {H : Heap} {c : Cod} {b1 b5 : Nat} {v5 : Value} {b6 : Nat} {v6 : Value} {g : List (List Int)} {seen : List Bool} {l : List D} {a : A} {G G' : Heap} {m : Nat} {th : List Int} (h : AccAt (FHeap H c b1 b5 v5 b6 v6 g seen) 3 1 l a G)
    (e56 : eqn b5 b6 = false) (hle : LeH (upd G b6 (.arr 4 1 v6 ((seen.map D.bool).set m (.bool true)))) G') :
    AccAt (FHeap H c b1 b5 v5 b6 v6 (g.set m th) (seen.set m true)) 3 1 l a (upd G' b5 (.arr 27 1 v5 ((g.map ints).set m (ints th)))) := by
  have hne : b5 ≠ b6 := of_decide_eq_false e56
  have h1 := h.set (b := b6) (o := .arr 4 1 v6 (seen.map .bool)) (o' := .arr 4 1 v6 ((seen.map .bool).set m (.bool true))) (by simp [FHeap, upd])
  have h2 := (h1.mono hle).set (b := b5) (o := .arr 27 1 v5 (g.map ints)) (o' := .arr 27 1 v5 ((g.map ints).set m (ints th))) (by simp [FHeap, upd, hne])
  have e : upd (upd (FHeap H c b1 b5 v5 b6 v6 g seen) b6 (.arr 4 1 v6 ((seen.map D.bool).set m (.bool true)))) b5 (.arr 27 1 v5 ((g.map ints).set m (ints th))) = FHeap H c b1 b5 v5 b6 v6 (g.set m th) (seen.set m true) := by
    funext k
    simp only [FHeap, upd, List.map_set]
    by_cases k5 : k = b5
    · subst k5; simp [hne]
    · by_cases k6 : k = b6
      · subst k6; simp [Ne.symm hne]
      · simp [k5, k6]
  rw [e] at h2
  exact h2

theorem AccAt.both {G H : Heap} {E : TypeId} {sz : Nat} {l : List D} {a : A} (h : AccAt G E sz l a H) {b : Nat} {o : AObj} (hb : H b = none) : AccAt (upd G b o) E sz l a (upd H b o) := by
  obtain ⟨hle, h⟩ := h
  refine ⟨leH_both hle, ?_⟩
  rcases h with h | ⟨d, v, ha, hd, hv, hH⟩
  · exact .inl h
  · have : d ≠ b := by rintro rfl; rw [hb] at hH; cases hH
    exact .inr ⟨d, v, ha, by simp [upd, this, hd], hv, by simp [upd, this, hH]⟩
theorem AccAt.down {G H : Heap} {E : TypeId} {sz : Nat} {l : List D} {a : A} {b : Nat} {o : AObj} (h : AccAt (upd G b o) E sz l a H) (hb : G b = none) : AccAt G E sz l a H := by
  obtain ⟨hle, h⟩ := h
  refine ⟨(LeH.up (.refl G) hb).trans hle, ?_⟩
  rcases h with h | ⟨d, v, ha, hd, hv, hH⟩
  · exact .inl h
  · exact .inr ⟨d, v, ha, (upd_eq_none.1 hd).2, hv, hH⟩
theorem FHeap_out {H : Heap} {c : Cod} {b1 b5 : Nat} {v5 : Value} {b6 : Nat} {v6 : Value} {g : List (List Int)} {seen : List Bool} {b9 : Nat} {o : AObj} (h1 : eqn b1 b9 = false) (h5 : eqn b5 b9 = false) (h6 : eqn b6 b9 = false) :
    FHeap (upd H b9 o) c b1 b5 v5 b6 v6 g seen = upd (FHeap H c b1 b5 v5 b6 v6 g seen) b9 o := by
  have h1 : b1 ≠ b9 := of_decide_eq_false h1
  have h5 : b5 ≠ b9 := of_decide_eq_false h5
  have h6 : b6 ≠ b9 := of_decide_eq_false h6
  unfold FHeap
  rw [upd_comm (Ne.symm h1), upd_comm (Ne.symm h5), upd_comm (Ne.symm h6)]

theorem drop_at {l : List Int} {k : Nat} {x : Int} (h : l[k]? = some x) : l.drop k = x :: l.drop (k + 1) := by
  obtain ⟨hk, e⟩ := List.getElem?_eq_some_iff.1 h
  rw [List.drop_eq_getElem_cons hk, e]
theorem flowIn_new {i : Ins} {a : Int} {here : List Int} {k : Nat} {tos : List Int} {m : Nat} {s : FS} (ht : tos[k]? = some (m : Int)) (hs : s.seen[m]? = some false) :
    flowIn i a here k (tos.drop k) s = flowIn i a here (k + 1) (tos.drop (k + 1)) ⟨s.g.set m (thenI i a k here), s.seen.set m true, s.st ++ [(m : Int)]⟩ := by
  rw [drop_at ht, flowIn, Int.toNat_natCast, hs]; rfl
theorem flowIn_old {i : Ins} {a : Int} {here : List Int} {k : Nat} {tos : List Int} {m : Nat} {s : FS} (ht : tos[k]? = some (m : Int)) (hs : s.seen[m]? = some true) (hg : s.g[m]? = some (thenI i a k here)) :
    flowIn i a here k (tos.drop k) s = flowIn i a here (k + 1) (tos.drop (k + 1)) s := by
  rw [drop_at ht, flowIn, Int.toNat_natCast, hs, if_pos rfl, hg, if_pos rfl]
theorem flowIn_clash {i : Ins} {a : Int} {here : List Int} {k : Nat} {tos : List Int} {m : Nat} {s : FS} (ht : tos[k]? = some (m : Int)) (hs : s.seen[m]? = some true) {y : List Int} (hg : s.g[m]? = some y) (hy : y ≠ thenI i a k here) :
    flowIn i a here k (tos.drop k) s = none := by
  rw [drop_at ht, flowIn, Int.toNat_natCast, hs, if_pos rfl, hg, if_neg (by simpa using hy)]

@[go_sem] theorem slA_ints {l : List Int} {lo hi : Option A} {H : Heap} {KH : A → Heap → Prop} : slA (.d (ints l)) lo hi H KH (some 1) = bounds lo hi l.length (hid (fun a m => KH (.d (ints ((l.take m).drop a))) H) ⟨⟩) := by
  have : ∀ a m, ((l.map fun n => D.int .i64 n).take m).drop a = ((l.take m).drop a).map fun n => D.int .i64 n := by intro a m; simp [List.map_take, List.map_drop]
  simp only [ints, slA_slice, szs_ints, andK, true_and, List.length_map, hid, this]

theorem goes_range {c : Cod} {k : Nat} {i : Ins} (h : knownI c k i = true) : inRange c.body.length (goesI k i) := by
  have : (goesI k i).any (fun t => badI c.body.length t) = false := by
    simp only [knownI, Bool.and_eq_true, Bool.not_eq_true'] at h
    exact h.1.1.2
  rw [List.any_eq_false] at this
  intro t ht
  have := this t ht
  simp only [badI, Bool.or_eq_true, decide_eq_true_eq, not_or] at this
  omega

set_option maxHeartbeats 4000000 in
theorem flow_ok {eb : Nat → Addr} (H : Heap) (c : Cod) (hc : CodOk c) (hrd : ∀ i ∈ c.body, (readsI c i).length < 1099511627776) (K : A → Heap → Prop)
    (hK : ∀ r, FlowIs c r → K (.tup [.d (intss (r.getD [])), .d (.bool r.isSome)]) H) : ACall Tryd.prog (seatV eb) 18 [.d c.d] H K := by
  have hn := hc.n
  refine ACall.by mixed fn18 (by simp) ?_
  conv in s18 => cbv
  refine svc_start ?_
  simp -dsimp (maxDischargeDepth := 9) only [go_sem, Nat.reduceBEq, Nat.reduceLT, Nat.reduceAdd, Nat.reduceSub, Nat.reduceMul, Nat.reduceLeDiff, Int.reduceLE, Int.toNat_natCast, Int.natCast_nonneg, List.getElem?_map, List.length_map, Nat.zero_add, eq_self, Bool.not_true, Bool.not_false, Cod.d, Cod.cs]
  refine newK_intro (fun b1 hb1 hn1 hm1 => ?_)
  simp -dsimp (maxDischargeDepth := 9) only [go_sem, Nat.reduceBEq, Nat.reduceLT, Nat.reduceAdd, Nat.reduceSub, Nat.reduceMul, Nat.reduceLeDiff, Int.reduceLE, Int.toNat_natCast, Int.natCast_nonneg, List.getElem?_map, List.length_map, Nat.zero_add, eq_self, Bool.not_true, Bool.not_false, *]
  have hle1 : LeH H (upd H b1 (.var (c.cs.map .d))) := leH_upd hb1 (.refl _)
  refine gif_split (fun h1 => ?_) (fun h1 => ?_)
  · simp -dsimp (maxDischargeDepth := 9) only [go_sem, Nat.reduceBEq, Nat.reduceLT, Nat.reduceAdd, Nat.reduceSub, Nat.reduceMul, Nat.reduceLeDiff, Int.reduceLE, Int.toNat_natCast, Int.natCast_nonneg, List.getElem?_map, List.length_map, Nat.zero_add, eq_self, Bool.not_true, Bool.not_false, h1]
    exact retNone hle1 (hK none (.bad (.inl (by simp at h1; exact h1))))
  · simp -dsimp (maxDischargeDepth := 9) only [go_sem, Nat.reduceBEq, Nat.reduceLT, Nat.reduceAdd, Nat.reduceSub, Nat.reduceMul, Nat.reduceLeDiff, Int.reduceLE, Int.toNat_natCast, Int.natCast_nonneg, List.getElem?_map, List.length_map, Nat.zero_add, eq_self, Bool.not_true, Bool.not_false, h1]
    refine gif_split (fun h2 => ?_) (fun h2 => ?_)
    · simp -dsimp (maxDischargeDepth := 9) only [go_sem, Nat.reduceBEq, Nat.reduceLT, Nat.reduceAdd, Nat.reduceSub, Nat.reduceMul, Nat.reduceLeDiff, Int.reduceLE, Int.toNat_natCast, Int.natCast_nonneg, List.getElem?_map, List.length_map, Nat.zero_add, eq_self, Bool.not_true, Bool.not_false, h2]
      exact retNone hle1 (hK none (.bad (.inr (.inl (by simp at h2; omega)))))
    · simp -dsimp (maxDischargeDepth := 9) only [go_sem, Nat.reduceBEq, Nat.reduceLT, Nat.reduceAdd, Nat.reduceSub, Nat.reduceMul, Nat.reduceLeDiff, Int.reduceLE, Int.toNat_natCast, Int.natCast_nonneg, List.getElem?_map, List.length_map, Nat.zero_add, eq_self, Bool.not_true, Bool.not_false, h2, bools]
      refine gif_split (fun h3 => ?_) (fun h3 => ?_)
      · simp -dsimp (maxDischargeDepth := 9) only [go_sem, Nat.reduceBEq, Nat.reduceLT, Nat.reduceAdd, Nat.reduceSub, Nat.reduceMul, Nat.reduceLeDiff, Int.reduceLE, Int.toNat_natCast, Int.natCast_nonneg, List.getElem?_map, List.length_map, Nat.zero_add, eq_self, Bool.not_true, Bool.not_false, h3]
        exact retNone hle1 (hK none (.bad (.inr (.inr (.inl (by simp at h3; omega))))))
      · simp -dsimp (maxDischargeDepth := 9) only [go_sem, Nat.reduceBEq, Nat.reduceLT, Nat.reduceAdd, Nat.reduceSub, Nat.reduceMul, Nat.reduceLeDiff, Int.reduceLE, Int.toNat_natCast, Int.natCast_nonneg, List.getElem?_map, List.length_map, Nat.zero_add, eq_self, Bool.not_true, Bool.not_false, h3]
        refine svc_loop (fun k : Nat => [(1, .ref b1 0), (39, .d (.int .i64 c.body.length)), (40, .d (.int .i64 k))])
          (fun k G => k ≤ c.body.length ∧ G = upd H b1 (.var (c.cs.map .d)) ∧ ∀ j i, j < k → c.body[j]? = some i → knownI c j i = true) (fun k => c.body.length - k) 0 _ ⟨Nat.zero_le _, rfl, fun j i h => absurd h (Nat.not_lt_zero _)⟩ (by simp -dsimp (maxDischargeDepth := 9) only [go_sem, Nat.reduceBEq, Nat.reduceLT, Nat.reduceAdd, Nat.reduceSub, Nat.reduceMul, Nat.reduceLeDiff, Int.reduceLE, Int.toNat_natCast, Int.natCast_nonneg, List.getElem?_map, List.length_map, Nat.zero_add, eq_self, Bool.not_true, Bool.not_false, Int.natCast_zero]) (by simp -dsimp (maxDischargeDepth := 9) only [go_sem, Nat.reduceBEq, Nat.reduceLT, Nat.reduceAdd, Nat.reduceSub, Nat.reduceMul, Nat.reduceLeDiff, Int.reduceLE, Int.toNat_natCast, Int.natCast_nonneg, List.getElem?_map, List.length_map, Nat.zero_add, eq_self, Bool.not_true, Bool.not_false, Cod.cs, bools]; exact .refl _) ?_
        rintro k G ⟨hk, rfl, hall⟩
        simp -dsimp (maxDischargeDepth := 9) only [go_sem, Nat.reduceBEq, Nat.reduceLT, Nat.reduceAdd, Nat.reduceSub, Nat.reduceMul, Nat.reduceLeDiff, Int.reduceLE, Int.toNat_natCast, Int.natCast_nonneg, List.getElem?_map, List.length_map, Nat.zero_add, eq_self, Bool.not_true, Bool.not_false]
        refine gif_split (fun h4 => ?_) (fun h4 => ?_)
        · have hk' : k < c.body.length := by simpa using h4
          obtain ⟨i, hi⟩ : ∃ i, c.body[k]? = some i := ⟨c.body[k], by simp [hk']⟩
          have hw := wrapS (k := k) (by omega)
          simp -dsimp (maxDischargeDepth := 9) only [go_sem, Nat.reduceBEq, Nat.reduceLT, Nat.reduceAdd, Nat.reduceSub, Nat.reduceMul, Nat.reduceLeDiff, Int.reduceLE, Int.toNat_natCast, Int.natCast_nonneg, List.getElem?_map, List.length_map, Nat.zero_add, eq_self, Bool.not_true, Bool.not_false, Cod.cs]
          refine known_ok _ c k i hi hn (hc.body i (List.mem_of_getElem? hi)) (hrd i (List.mem_of_getElem? hi)) hc.ins _ ?_
          simp -dsimp (maxDischargeDepth := 9) only [go_sem, Nat.reduceBEq, Nat.reduceLT, Nat.reduceAdd, Nat.reduceSub, Nat.reduceMul, Nat.reduceLeDiff, Int.reduceLE, Int.toNat_natCast, Int.natCast_nonneg, List.getElem?_map, List.length_map, Nat.zero_add, eq_self, Bool.not_true, Bool.not_false]
          refine gif_split (fun h5 => ?_) (fun h5 => ?_)
          · simp -dsimp (maxDischargeDepth := 9) only [go_sem, Nat.reduceBEq, Nat.reduceLT, Nat.reduceAdd, Nat.reduceSub, Nat.reduceMul, Nat.reduceLeDiff, Int.reduceLE, Int.toNat_natCast, Int.natCast_nonneg, List.getElem?_map, List.length_map, Nat.zero_add, eq_self, Bool.not_true, Bool.not_false]
            exact retNone hle1 (hK none (.bad (.inr (.inr (.inr ⟨k, i, hi, by simpa using h5⟩)))))
          · simp -dsimp (maxDischargeDepth := 9) only [go_sem, Nat.reduceBEq, Nat.reduceLT, Nat.reduceAdd, Nat.reduceSub, Nat.reduceMul, Nat.reduceLeDiff, Int.reduceLE, Int.toNat_natCast, Int.natCast_nonneg, List.getElem?_map, List.length_map, Nat.zero_add, eq_self, Bool.not_true, Bool.not_false, hw]
            refine roundQ_next (k + 1) _ ⟨by omega, rfl, ?_⟩ (by omega) (by simp -dsimp (maxDischargeDepth := 9) only [go_sem, Nat.reduceBEq, Nat.reduceLT, Nat.reduceAdd, Nat.reduceSub, Nat.reduceMul, Nat.reduceLeDiff, Int.reduceLE, Int.toNat_natCast, Int.natCast_nonneg, List.getElem?_map, List.length_map, Nat.zero_add, eq_self, Bool.not_true, Bool.not_false]) (.refl _)
            intro j i' hj hi'
            rcases Nat.lt_succ_iff_lt_or_eq.1 hj with hj' | rfl
            · exact hall j i' hj' hi'
            · rw [hi] at hi'; cases hi'; simpa using h5
        · have hk' : k = c.body.length := by simp at h4; omega
          subst hk'
          have hgood : ¬ flowBad c := by
            rintro (h | h | h | ⟨j, i, hi, hf⟩)
            · simp [h] at h1
            · simp at h2; omega
            · simp at h3; omega
            · rw [hall j i (List.getElem?_eq_some_iff.1 hi).1 hi] at hf; cases hf
          have hpos : 0 < c.body.length := by have := of_decide_eq_false h1; omega
          simp -dsimp (maxDischargeDepth := 9) only [go_sem, Nat.reduceBEq, Nat.reduceLT, Nat.reduceAdd, Nat.reduceSub, Nat.reduceMul, Nat.reduceLeDiff, Int.reduceLE, Int.toNat_natCast, Int.natCast_nonneg, List.getElem?_map, List.length_map, Nat.zero_add, eq_self, Bool.not_true, Bool.not_false, Cod.cs]
          refine andK_split (by omega) ?_
          simp -dsimp (maxDischargeDepth := 9) only [go_sem, Nat.reduceBEq, Nat.reduceLT, Nat.reduceAdd, Nat.reduceSub, Nat.reduceMul, Nat.reduceLeDiff, Int.reduceLE, Int.toNat_natCast, Int.natCast_nonneg, List.getElem?_map, List.length_map, Nat.zero_add, eq_self, Bool.not_true, Bool.not_false, *]
          refine newV_intro (fun b5 v5 hb5 hn5 hm5 hv5 => ?_)
          simp -dsimp (maxDischargeDepth := 9) only [go_sem, Nat.reduceBEq, Nat.reduceLT, Nat.reduceAdd, Nat.reduceSub, Nat.reduceMul, Nat.reduceLeDiff, Int.reduceLE, Int.toNat_natCast, Int.natCast_nonneg, List.getElem?_map, List.length_map, Nat.zero_add, eq_self, Bool.not_true, Bool.not_false, *]
          refine andK_split (by omega) ?_
          simp -dsimp (maxDischargeDepth := 9) only [go_sem, Nat.reduceBEq, Nat.reduceLT, Nat.reduceAdd, Nat.reduceSub, Nat.reduceMul, Nat.reduceLeDiff, Int.reduceLE, Int.toNat_natCast, Int.natCast_nonneg, List.getElem?_map, List.length_map, Nat.zero_add, eq_self, Bool.not_true, Bool.not_false, *]
          refine newV_intro (fun b6 v6 hb6 hn6 hm6 hv6 => ?_)
          have hz : Int.toNat 0 < c.body.length := hpos
          have hrep : (List.replicate c.body.length (D.bool false))[Int.toNat 0]? = some (D.bool false) := by simp [hpos]
          simp -dsimp (maxDischargeDepth := 9) only [go_sem, Nat.reduceBEq, Nat.reduceLT, Nat.reduceAdd, Nat.reduceSub, Nat.reduceMul, Nat.reduceLeDiff, Int.reduceLE, Int.toNat_natCast, Int.natCast_nonneg, List.getElem?_map, List.length_map, Nat.zero_add, eq_self, Bool.not_true, Bool.not_false, *, List.length_replicate]
          refine newV_intro (fun b7 v7 hb7 hn7 hm7 hv7 => ?_)
          have e15 : eqn b1 b5 = false := hn5 b1 (by simp -dsimp (maxDischargeDepth := 9) only [go_sem, Nat.reduceBEq, Nat.reduceLT, Nat.reduceAdd, Nat.reduceSub, Nat.reduceMul, Nat.reduceLeDiff, Int.reduceLE, Int.toNat_natCast, Int.natCast_nonneg, List.getElem?_map, List.length_map, Nat.zero_add, eq_self, Bool.not_true, Bool.not_false])
          have e16 : eqn b1 b6 = false := hn6 b1 (by simp -dsimp (maxDischargeDepth := 9) only [go_sem, Nat.reduceBEq, Nat.reduceLT, Nat.reduceAdd, Nat.reduceSub, Nat.reduceMul, Nat.reduceLeDiff, Int.reduceLE, Int.toNat_natCast, Int.natCast_nonneg, List.getElem?_map, List.length_map, Nat.zero_add, eq_self, Bool.not_true, Bool.not_false, e15])
          have e56 : eqn b5 b6 = false := hn6 b5 (by simp -dsimp (maxDischargeDepth := 9) only [go_sem, Nat.reduceBEq, Nat.reduceLT, Nat.reduceAdd, Nat.reduceSub, Nat.reduceMul, Nat.reduceLeDiff, Int.reduceLE, Int.toNat_natCast, Int.natCast_nonneg, List.getElem?_map, List.length_map, Nat.zero_add, eq_self, Bool.not_true, Bool.not_false])
          have hfree : H b5 = none := LeH.free (.up (.refl _) hb1) hb5
          have hFH0 : LeH H (upd (upd (upd H b1 (.var (c.cs.map .d))) b5 (.arr 27 1 v5 (List.replicate c.body.length (.slice [])))) b6 (.arr 4 1 v6 ((List.replicate c.body.length (.bool false)).set 0 (.bool true)))) := by
            refine LeH.up (LeH.up hle1 hb5) ?_
            exact hb6
          have hFs : FHeap H c b1 b5 v5 b6 v6 (flowStart c).g (flowStart c).seen = upd (upd (upd H b1 (.var (c.cs.map .d))) b5 (.arr 27 1 v5 (List.replicate c.body.length (.slice [])))) b6 (.arr 4 1 v6 ((List.replicate c.body.length (.bool false)).set 0 (.bool true))) := by
            simp [FHeap, flowStart, List.map_replicate, List.map_set, ints]
          have hacc0 : AccAt (FHeap H c b1 b5 v5 b6 v6 (flowStart c).g (flowStart c).seen) 3 1 ((flowStart c).st.map fun n => .int .i64 n) (.own b7 v7) (upd (FHeap H c b1 b5 v5 b6 v6 (flowStart c).g (flowStart c).seen) b7 (.arr 3 1 v7 [.int .i64 0])) := by
            have hF7 : FHeap H c b1 b5 v5 b6 v6 (flowStart c).g (flowStart c).seen b7 = none := by
              rw [hFs]
              simp only [upd_eq_none] at hb7 ⊢
              exact ⟨hb7.1, hb7.2.2⟩
            exact AccAt.own (LeH.up (.refl _) hF7) hF7 hv7 (upd_same ..)
          have hb5' : upd H b1 (.var (c.cs.map .d)) b5 = none := hb5
          have hb6' : ∀ (g : List (List Int)), upd (upd H b1 (.var (c.cs.map .d))) b5 (.arr 27 1 v5 (g.map ints)) b6 = none := fun g => by
            have := upd_eq_none.1 hb6
            exact upd_eq_none.2 this
          generalize A.own b7 v7 = a7 at hacc0 ⊢
          simp -dsimp (maxDischargeDepth := 9) only [go_sem, Nat.reduceBEq, Nat.reduceLT, Nat.reduceAdd, Nat.reduceSub, Nat.reduceMul, Nat.reduceLeDiff, Int.reduceLE, Int.toNat_natCast, Int.natCast_nonneg, List.getElem?_map, List.length_map, Nat.zero_add, eq_self, Bool.not_true, Bool.not_false]
          refine svc_loop (X := FS × A) (fun x => [(1, .ref b1 0), (5, .own b5 v5), (6, .own b6 v6), (7, x.2)])
            (fun x G => FInv c.body x.1 ∧ (∀ r, FRun c.body x.1 r → FRun c.body (flowStart c) r) ∧ AccAt (FHeap H c b1 b5 v5 b6 v6 x.1.g x.1.seen) 3 1 (x.1.st.map fun n => .int .i64 n) x.2 G)
            (fun x => x.1.m) (flowStart c, a7) _ ⟨.start _ hpos, fun _ h => h, hacc0⟩ (by simp -dsimp (maxDischargeDepth := 9) only [go_sem, Nat.reduceBEq, Nat.reduceLT, Nat.reduceAdd, Nat.reduceSub, Nat.reduceMul, Nat.reduceLeDiff, Int.reduceLE, Int.toNat_natCast, Int.natCast_nonneg, List.getElem?_map, List.length_map, Nat.zero_add, eq_self, Bool.not_true, Bool.not_false]) ?_ ?_
          · rw [hFs, upd_upd]
            exact .refl _
          rintro ⟨s, a⟩ G ⟨hinv, hrun, hacc⟩
          simp only at hinv hrun hacc
          have hFH : ∀ g sn, LeH H (FHeap H c b1 b5 v5 b6 v6 g sn) := fun g sn => LeH.up (LeH.up hle1 hb5') (hb6' g)
          have hF1 : ∀ H g sn, FHeap H c b1 b5 v5 b6 v6 g sn b1 = some (.var (c.cs.map .d)) := fun H g sn => by unfold FHeap; simp -dsimp (maxDischargeDepth := 9) only [go_sem, Nat.reduceBEq, Nat.reduceLT, Nat.reduceAdd, Nat.reduceSub, Nat.reduceMul, Nat.reduceLeDiff, Int.reduceLE, Int.toNat_natCast, Int.natCast_nonneg, List.getElem?_map, List.length_map, Nat.zero_add, eq_self, Bool.not_true, Bool.not_false, *]
          have hF9 : ∀ (b9 : Nat) o g sn, eqn b1 b9 = false → eqn b5 b9 = false → eqn b6 b9 = false → FHeap (upd H b9 o) c b1 b5 v5 b6 v6 g sn b9 = some o := fun b9 o g sn h1 h5 h6 => by rw [FHeap_out h1 h5 h6]; exact upd_same ..
          have hF5 : ∀ H g sn, FHeap H c b1 b5 v5 b6 v6 g sn b5 = some (.arr 27 1 v5 (g.map ints)) := fun H g sn => by unfold FHeap; simp -dsimp (maxDischargeDepth := 9) only [go_sem, Nat.reduceBEq, Nat.reduceLT, Nat.reduceAdd, Nat.reduceSub, Nat.reduceMul, Nat.reduceLeDiff, Int.reduceLE, Int.toNat_natCast, Int.natCast_nonneg, List.getElem?_map, List.length_map, Nat.zero_add, eq_self, Bool.not_true, Bool.not_false, *]
          have hF6 : ∀ H g sn, FHeap H c b1 b5 v5 b6 v6 g sn b6 = some (.arr 4 1 v6 (sn.map .bool)) := fun H g sn => by unfold FHeap; simp -dsimp (maxDischargeDepth := 9) only [go_sem, Nat.reduceBEq, Nat.reduceLT, Nat.reduceAdd, Nat.reduceSub, Nat.reduceMul, Nat.reduceLeDiff, Int.reduceLE, Int.toNat_natCast, Int.natCast_nonneg, List.getElem?_map, List.length_map, Nat.zero_add, eq_self, Bool.not_true, Bool.not_false, *]
          simp -dsimp (maxDischargeDepth := 9) only [go_sem, Nat.reduceBEq, Nat.reduceLT, Nat.reduceAdd, Nat.reduceSub, Nat.reduceMul, Nat.reduceLeDiff, Int.reduceLE, Int.toNat_natCast, Int.natCast_nonneg, List.getElem?_map, List.length_map, Nat.zero_add, eq_self, Bool.not_true, Bool.not_false]
          refine andK_split (lenable_acc hacc (by simp -dsimp (maxDischargeDepth := 9) only [go_sem, Nat.reduceBEq, Nat.reduceLT, Nat.reduceAdd, Nat.reduceSub, Nat.reduceMul, Nat.reduceLeDiff, Int.reduceLE, Int.toNat_natCast, Int.natCast_nonneg, List.getElem?_map, List.length_map, Nat.zero_add, eq_self, Bool.not_true, Bool.not_false])) ?_
          refine aLen_acc hacc ?_
          simp -dsimp (maxDischargeDepth := 9) only [go_sem, Nat.reduceBEq, Nat.reduceLT, Nat.reduceAdd, Nat.reduceSub, Nat.reduceMul, Nat.reduceLeDiff, Int.reduceLE, Int.toNat_natCast, Int.natCast_nonneg, List.getElem?_map, List.length_map, Nat.zero_add, eq_self, Bool.not_true, Bool.not_false]
          refine gif_split (fun h5 => ?_) (fun h5 => ?_)
          · have hne0 : s.st ≠ [] := by intro e; simp [e] at h5
            obtain ⟨st, t, hst⟩ : ∃ st t, s.st = st ++ [t] := ⟨s.st.dropLast, s.st.getLast hne0, (List.dropLast_concat_getLast hne0).symm⟩
            rw [hst] at hacc h5
            obtain ⟨b, v, rfl, hgb, hv, hGb⟩ := hacc.some (by simp)
            have hle := hacc.le
            have hG1 : G b1 = some (.var (c.cs.map .d)) := hle _ _ (hF1 _ _ _)
            have hG5 : G b5 = some (.arr 27 1 v5 (s.g.map ints)) := hle _ _ (hF5 _ _ _)
            have hG6 : G b6 = some (.arr 4 1 v6 (s.seen.map .bool)) := hle _ _ (hF6 _ _ _)
            have hb1' : eqn b1 b = false := eqn_ne (by rintro rfl; rw [hG1] at hGb; cases hGb)
            have hb5' : eqn b5 b = false := eqn_ne (by rintro rfl; rw [hF5] at hgb; cases hgb)
            have hb6' : eqn b6 b = false := eqn_ne (by rintro rfl; rw [hF6] at hgb; cases hgb)
            obtain ⟨ht0, htl⟩ := hinv.st t (by rw [hst]; simp)
            obtain ⟨n, rfl⟩ : ∃ n : Nat, t = n := ⟨t.toNat, by omega⟩
            rw [Int.toNat_natCast] at htl
            obtain ⟨i, hi⟩ : ∃ i, c.body[n]? = some i := ⟨c.body[n], by simp [htl]⟩
            obtain ⟨here, hhere⟩ : ∃ x, s.g[n]? = some x := ⟨s.g[n]'(by rw [hinv.lg]; exact htl), by simp [hinv.lg, htl]⟩
            have hbound := hinv.bound
            rw [hst] at hbound
            simp only [List.length_append, List.length_singleton] at hbound
            have hw : IntKind.i64.wrap (((st.length + 1 : Nat) : Int) - 1) = (st.length : Int) := by rw [wrap64 (by omega) (by omega)]; omega
            have hget : (st ++ [(n : Int)])[st.length]? = some (n : Int) := by simp
            have htk : List.take st.length (List.map (fun n => D.int IntKind.i64 n) (st ++ [(n : Int)])) = List.map (fun n => D.int IntKind.i64 n) st := by simp [List.take_append]
            have hlg : n < s.g.length := by rw [hinv.lg]; exact htl
            simp -dsimp (maxDischargeDepth := 9) only [go_sem, Nat.reduceBEq, Nat.reduceLT, Nat.reduceAdd, Nat.reduceSub, Nat.reduceMul, Nat.reduceLeDiff, Int.reduceLE, Int.toNat_natCast, Int.natCast_nonneg, List.getElem?_map, List.length_map, Nat.zero_add, eq_self, Bool.not_true, Bool.not_false, hGb, hst, hw, hget, htk, List.length_append, Nat.lt_add_one, Nat.le_add_right]
            intro v2 hv2
            have hcut := hacc.cut (l' := st.map fun n => D.int .i64 n) hv2
            generalize A.own b v2 = a2 at hcut ⊢
            simp -dsimp (maxDischargeDepth := 9) only [go_sem, Nat.reduceBEq, Nat.reduceLT, Nat.reduceAdd, Nat.reduceSub, Nat.reduceMul, Nat.reduceLeDiff, Int.reduceLE, Int.toNat_natCast, Int.natCast_nonneg, List.getElem?_map, List.length_map, Nat.zero_add, eq_self, Bool.not_true, Bool.not_false, hG1, hb1', Cod.cs, hi, Ins.d, Ins.cs]
            have hGc1 : upd G b (.arr 3 1 v2 (st.map fun n => D.int .i64 n)) b1 = some (.var (c.cs.map .d)) := by simp -dsimp (maxDischargeDepth := 9) only [go_sem, Nat.reduceBEq, Nat.reduceLT, Nat.reduceAdd, Nat.reduceSub, Nat.reduceMul, Nat.reduceLeDiff, Int.reduceLE, Int.toNat_natCast, Int.natCast_nonneg, List.getElem?_map, List.length_map, Nat.zero_add, eq_self, Bool.not_true, Bool.not_false, hG1, hb1']
            have hGc5 : upd G b (.arr 3 1 v2 (st.map fun n => D.int .i64 n)) b5 = some (.arr 27 1 v5 (s.g.map ints)) := by simp -dsimp (maxDischargeDepth := 9) only [go_sem, Nat.reduceBEq, Nat.reduceLT, Nat.reduceAdd, Nat.reduceSub, Nat.reduceMul, Nat.reduceLeDiff, Int.reduceLE, Int.toNat_natCast, Int.natCast_nonneg, List.getElem?_map, List.length_map, Nat.zero_add, eq_self, Bool.not_true, Bool.not_false, hG5, hb5']
            have hGc6 : upd G b (.arr 3 1 v2 (st.map fun n => D.int .i64 n)) b6 = some (.arr 4 1 v6 (s.seen.map .bool)) := by simp -dsimp (maxDischargeDepth := 9) only [go_sem, Nat.reduceBEq, Nat.reduceLT, Nat.reduceAdd, Nat.reduceSub, Nat.reduceMul, Nat.reduceLeDiff, Int.reduceLE, Int.toNat_natCast, Int.natCast_nonneg, List.getElem?_map, List.length_map, Nat.zero_add, eq_self, Bool.not_true, Bool.not_false, hG6, hb6']
            generalize upd G b (.arr 3 1 v2 (st.map fun n => D.int .i64 n)) = Gc at hcut hGc1 hGc5 hGc6 ⊢
            clear hGb hG1 hG5 hG6 hacc hle hgb hb1' hb5' hb6'
            refine newK_intro (fun b9 hb9 hn9 hm9 => ?_)
            have h91 : eqn b1 b9 = false := hn9 b1 (by simp -dsimp (maxDischargeDepth := 9) only [go_sem, Nat.reduceBEq, Nat.reduceLT, Nat.reduceAdd, Nat.reduceSub, Nat.reduceMul, Nat.reduceLeDiff, Int.reduceLE, Int.toNat_natCast, Int.natCast_nonneg, List.getElem?_map, List.length_map, Nat.zero_add, eq_self, Bool.not_true, Bool.not_false, hGc1])
            have h95 : eqn b5 b9 = false := hn9 b5 (by simp -dsimp (maxDischargeDepth := 9) only [go_sem, Nat.reduceBEq, Nat.reduceLT, Nat.reduceAdd, Nat.reduceSub, Nat.reduceMul, Nat.reduceLeDiff, Int.reduceLE, Int.toNat_natCast, Int.natCast_nonneg, List.getElem?_map, List.length_map, Nat.zero_add, eq_self, Bool.not_true, Bool.not_false, hGc5])
            have h96 : eqn b6 b9 = false := hn9 b6 (by simp -dsimp (maxDischargeDepth := 9) only [go_sem, Nat.reduceBEq, Nat.reduceLT, Nat.reduceAdd, Nat.reduceSub, Nat.reduceMul, Nat.reduceLeDiff, Int.reduceLE, Int.toNat_natCast, Int.natCast_nonneg, List.getElem?_map, List.length_map, Nat.zero_add, eq_self, Bool.not_true, Bool.not_false, hGc6])
            have hFn : ∀ g sn, FHeap H c b1 b5 v5 b6 v6 g sn b9 = none := by
              intro g sn
              have h0 := LeH.free hcut.le hb9
              unfold FHeap at h0 ⊢
              simpa only [upd_eq_none] using h0
            have hcut9 := hcut.both (o := .var (i.cs.map .d)) hb9
            rw [← FHeap_out h91 h95 h96] at hcut9
            have hG1 : upd Gc b9 (.var (i.cs.map .d)) b1 = some (.var (c.cs.map .d)) := by simp -dsimp (maxDischargeDepth := 9) only [go_sem, Nat.reduceBEq, Nat.reduceLT, Nat.reduceAdd, Nat.reduceSub, Nat.reduceMul, Nat.reduceLeDiff, Int.reduceLE, Int.toNat_natCast, Int.natCast_nonneg, List.getElem?_map, List.length_map, Nat.zero_add, eq_self, Bool.not_true, Bool.not_false, hGc1, h91]
            have hG5 : upd Gc b9 (.var (i.cs.map .d)) b5 = some (.arr 27 1 v5 (s.g.map ints)) := by simp -dsimp (maxDischargeDepth := 9) only [go_sem, Nat.reduceBEq, Nat.reduceLT, Nat.reduceAdd, Nat.reduceSub, Nat.reduceMul, Nat.reduceLeDiff, Int.reduceLE, Int.toNat_natCast, Int.natCast_nonneg, List.getElem?_map, List.length_map, Nat.zero_add, eq_self, Bool.not_true, Bool.not_false, hGc5, h95]
            have hG6 : upd Gc b9 (.var (i.cs.map .d)) b6 = some (.arr 4 1 v6 (s.seen.map .bool)) := by simp -dsimp (maxDischargeDepth := 9) only [go_sem, Nat.reduceBEq, Nat.reduceLT, Nat.reduceAdd, Nat.reduceSub, Nat.reduceMul, Nat.reduceLeDiff, Int.reduceLE, Int.toNat_natCast, Int.natCast_nonneg, List.getElem?_map, List.length_map, Nat.zero_add, eq_self, Bool.not_true, Bool.not_false, hGc6, h96]
            have hG9 : upd Gc b9 (.var (i.cs.map .d)) b9 = some (.var (i.cs.map .d)) := by simp -dsimp (maxDischargeDepth := 9) only [go_sem, Nat.reduceBEq, Nat.reduceLT, Nat.reduceAdd, Nat.reduceSub, Nat.reduceMul, Nat.reduceLeDiff, Int.reduceLE, Int.toNat_natCast, Int.natCast_nonneg, List.getElem?_map, List.length_map, Nat.zero_add, eq_self, Bool.not_true, Bool.not_false]
            simp -dsimp (maxDischargeDepth := 9) only [go_sem, Nat.reduceBEq, Nat.reduceLT, Nat.reduceAdd, Nat.reduceSub, Nat.reduceMul, Nat.reduceLeDiff, Int.reduceLE, Int.toNat_natCast, Int.natCast_nonneg, List.getElem?_map, List.length_map, Nat.zero_add, eq_self, Bool.not_true, Bool.not_false, upd_upd, h95, hGc5, hhere, hlg]
            have hcs : i.cs.map A.d = [.d (.int .i64 i.op), .d (.int .i64 i.a), .d (.int .i64 i.b), .d (.int .i64 i.c), .d (.int .i64 i.n), .d (.int .i64 i.l), .d (ints i.list), .d (ints i.outs), .d (ints i.live)] := rfl
            rw [← hcs]
            generalize upd Gc b9 (.var (i.cs.map .d)) = G2 at hcut9 hG1 hG5 hG6 hG9 ⊢
            clear hcut hGc1 hGc5 hGc6 hb9 hn9 hm9
            have hHn : H b9 = none := LeH.free (hFH [] []) (hFn [] [])
            have hFH9 : ∀ g sn, LeH H (FHeap (upd H b9 (.var (i.cs.map .d))) c b1 b5 v5 b6 v6 g sn) := fun g sn => by rw [FHeap_out h91 h95 h96]; exact LeH.up (hFH g sn) (hFn g sn)
            have hleG : LeH H G2 := (hFH9 _ _).trans hcut9.le
            have hl1 : decide (0 < (here.length : Int)) = !here.isEmpty := by cases here <;> simp
            have hl2 : decide ((here.length : Int) = 0) = here.isEmpty := by cases here <;> simp <;> omega
            refine (fun (key : ¬ stopI i here → ?T) => ?main) ?rest
            case main =>
              repeat' (first | (refine gif_split (fun h => ?_) (fun h => ?_) <;> (try simp -dsimp (maxDischargeDepth := 9) only [go_sem, Nat.reduceBEq, Nat.reduceLT, Nat.reduceAdd, Nat.reduceSub, Nat.reduceMul, Nat.reduceLeDiff, Int.reduceLE, Int.toNat_natCast, Int.natCast_nonneg, List.getElem?_map, List.length_map, Nat.zero_add, eq_self, Bool.not_true, Bool.not_false, h, hG9, Ins.cs, hl1, hl2])) | (refine tests_ok _ _ _ ?_; simp -dsimp (maxDischargeDepth := 9) only [go_sem, Nat.reduceBEq, Nat.reduceLT, Nat.reduceAdd, Nat.reduceSub, Nat.reduceMul, Nat.reduceLeDiff, Int.reduceLE, Int.toNat_natCast, Int.natCast_nonneg, List.getElem?_map, List.length_map, Nat.zero_add, eq_self, Bool.not_true, Bool.not_false, hG9, Ins.cs, hl1, hl2]))
              all_goals (first | (refine retNone hleG (hK none (.run none hgood (hrun _ (.stop s st n i here hst hi hhere ?_)))); simp_all [stopI]; done) | skip)
              all_goals exact key (by simp_all [stopI])
            case rest =>
              intro hns
              have hilen := hinv.len here (List.mem_of_getElem? hhere)
              have hm0 : (⟨s.g, s.seen, st⟩ : FS).m < s.m := by simp only [FS.m, hst, List.length_append, List.length_singleton]; omega
              have hgr : inRange c.body.length (goesI n i) := goes_range (hall n i htl hi)
              have hgl := goesI_length n i
              refine lgoes_ok _ (n : Int) (by omega) (by omega) i _ ?_
              simp -dsimp (maxDischargeDepth := 9) only [go_sem, Nat.reduceBEq, Nat.reduceLT, Nat.reduceAdd, Nat.reduceSub, Nat.reduceMul, Nat.reduceLeDiff, Int.reduceLE, Int.toNat_natCast, Int.natCast_nonneg, List.getElem?_map, List.length_map, Nat.zero_add, eq_self, Bool.not_true, Bool.not_false]
              refine svc_loop (X := Nat × FS × A) (fun x => [(1, .ref b1 0), (5, .own b5 v5), (6, .own b6 v6), (7, x.2.2), (8, .d (.int .i64 n)), (9, .ref b9 0), (10, .d (ints here)), (118, .d (ints (goesI n i))), (119, .d (.int .i64 (goesI n i).length)), (120, .d (.int .i64 x.1))])
                (fun x G => x.1 ≤ (goesI n i).length ∧ flowIn i n here 0 (goesI n i) ⟨s.g, s.seen, st⟩ = flowIn i n here x.1 ((goesI n i).drop x.1) x.2.1 ∧ FInv c.body x.2.1 ∧ here.length + falses x.2.1.seen ≤ c.body.length ∧ x.2.1.m < s.m ∧
                  AccAt (FHeap (upd H b9 (.var (i.cs.map .d))) c b1 b5 v5 b6 v6 x.2.1.g x.2.1.seen) 3 1 (x.2.1.st.map fun n => .int .i64 n) x.2.2 G)
                (fun x => (goesI n i).length - x.1) (0, ⟨s.g, s.seen, st⟩, a2) _ ⟨Nat.zero_le _, by simp, hinv.pop hst, hilen, hm0, hcut9⟩ (by simp -dsimp (maxDischargeDepth := 9) only [go_sem, Nat.reduceBEq, Nat.reduceLT, Nat.reduceAdd, Nat.reduceSub, Nat.reduceMul, Nat.reduceLeDiff, Int.reduceLE, Int.toNat_natCast, Int.natCast_nonneg, List.getElem?_map, List.length_map, Nat.zero_add, eq_self, Bool.not_true, Bool.not_false, Int.natCast_zero]) (.refl _) ?_
              clear hcut9 hG9 hG1 hG5 hG6 hleG
              rintro ⟨k, s', a'⟩ G ⟨hk, hfl, hinv', hlen', hm', hacc'⟩
              simp only at hk hfl hinv' hlen' hm' hacc'
              simp -dsimp (maxDischargeDepth := 9) only [go_sem, Nat.reduceBEq, Nat.reduceLT, Nat.reduceAdd, Nat.reduceSub, Nat.reduceMul, Nat.reduceLeDiff, Int.reduceLE, Int.toNat_natCast, Int.natCast_nonneg, List.getElem?_map, List.length_map, Nat.zero_add, eq_self, Bool.not_true, Bool.not_false]
              refine gif_split (fun h6 => ?_) (fun h6 => ?_)
              · have hk' : k < (goesI n i).length := by simpa using h6
                obtain ⟨t, ht⟩ : ∃ t, (goesI n i)[k]? = some t := ⟨(goesI n i)[k], by simp [hk']⟩
                obtain ⟨ht0, htl'⟩ := hgr t (List.mem_of_getElem? ht)
                obtain ⟨m, rfl⟩ : ∃ m : Nat, t = m := ⟨t.toNat, by omega⟩
                rw [Int.toNat_natCast] at htl'
                have hwk := wrapS (k := k) (by omega)
                have hle := hacc'.le
                have hG1 : G b1 = some (.var (c.cs.map .d)) := hle _ _ (hF1 _ _ _)
                have hG9 : G b9 = some (.var (i.cs.map .d)) := hle _ _ (hF9 _ _ _ _ h91 h95 h96)
                have hG5 : G b5 = some (.arr 27 1 v5 (s'.g.map ints)) := hle _ _ (hF5 _ _ _)
                have hG6 : G b6 = some (.arr 4 1 v6 (s'.seen.map .bool)) := hle _ _ (hF6 _ _ _)
                have hhl : here.length < 1099511627776 := by omega
                simp -dsimp (maxDischargeDepth := 9) only [go_sem, Nat.reduceBEq, Nat.reduceLT, Nat.reduceAdd, Nat.reduceSub, Nat.reduceMul, Nat.reduceLeDiff, Int.reduceLE, Int.toNat_natCast, Int.natCast_nonneg, List.getElem?_map, List.length_map, Nat.zero_add, eq_self, Bool.not_true, Bool.not_false, ht, hG9, Ins.cs]
                obtain ⟨x, hx⟩ : ∃ x, s'.seen[m]? = some x := ⟨s'.seen[m]'(by rw [hinv'.ls]; exact htl'), by simp [hinv'.ls, htl']⟩
                obtain ⟨y, hx5⟩ : ∃ x, s'.g[m]? = some x := ⟨s'.g[m]'(by rw [hinv'.lg]; exact htl'), by simp [hinv'.lg, htl']⟩
                have hml6 : m < s'.seen.length := by rw [hinv'.ls]; exact htl'
                have hml5 : m < s'.g.length := by rw [hinv'.lg]; exact htl'
                have e95 : eqn b9 b5 = false := eqn_ne (by rintro rfl; rw [hG9] at hG5; cases hG5)
                have e96 : eqn b9 b6 = false := eqn_ne (by rintro rfl; rw [hG9] at hG6; cases hG6)
                have hthl := thenI_length i n k here
                have hhr := hinv.tr here (List.mem_of_getElem? hhere)
                have hfal : ∀ hx : s'.seen[m]? = some false, falses (s'.seen.set m true) + 1 = falses s'.seen := fun hx => falses_set hx
                have fin1 : s'.seen[m]? = some false → ∀ a'' H', AccAt (FHeap (upd H b9 (.var (i.cs.map .d))) c b1 b5 v5 b6 v6 (s'.g.set m (thenI i n k here)) (s'.seen.set m true)) 3 1 ((s'.st ++ [(m : Int)]).map fun n => .int .i64 n) a'' H' →
                    k + 1 ≤ (goesI n i).length ∧ flowIn i n here 0 (goesI n i) ⟨s.g, s.seen, st⟩ = flowIn i n here (k + 1) ((goesI n i).drop (k + 1)) ⟨s'.g.set m (thenI i n k here), s'.seen.set m true, s'.st ++ [(m : Int)]⟩ ∧ FInv c.body ⟨s'.g.set m (thenI i n k here), s'.seen.set m true, s'.st ++ [(m : Int)]⟩ ∧
                    here.length + falses (s'.seen.set m true) ≤ c.body.length ∧ (⟨s'.g.set m (thenI i n k here), s'.seen.set m true, s'.st ++ [(m : Int)]⟩ : FS).m < s.m ∧
                    AccAt (FHeap (upd H b9 (.var (i.cs.map .d))) c b1 b5 v5 b6 v6 (s'.g.set m (thenI i n k here)) (s'.seen.set m true)) 3 1 ((s'.st ++ [(m : Int)]).map fun n => .int .i64 n) a'' H' := by
                  intro hx a'' H' h
                  have := hfal hx
                  refine ⟨by omega, ?_, ?_, by omega, ?_, h⟩
                  · rw [hfl, flowIn_new ht hx]
                  · have := hinv'.mark (x := thenI i n k here) (t := (m : Int)) (by omega) (by simpa using htl') (by simpa using hx) (by omega) (thenI_tries k (by omega) (by simpa using hi) hhr)
                    simpa using this
                  · simp only [FS.m, List.length_append, List.length_singleton] at hm' ⊢; omega
                have fin2 : s'.seen[m]? = some true → y ≠ thenI i n k here → K (.tup [.d (.slice []), .d (.bool false)]) H := fun hx hy =>
                  hK none (.run none hgood (hrun _ (.clash s st n i here hst (by simpa using hi) (by simpa using hhere) hns (by rw [show ({ s with st := st } : FS) = ⟨s.g, s.seen, st⟩ from rfl, hfl]; exact flowIn_clash ht hx hx5 hy))))
                have fin3 : s'.seen[m]? = some true → y = thenI i n k here → k + 1 ≤ (goesI n i).length ∧ flowIn i n here 0 (goesI n i) ⟨s.g, s.seen, st⟩ = flowIn i n here (k + 1) ((goesI n i).drop (k + 1)) s' ∧ FInv c.body s' ∧
                    here.length + falses s'.seen ≤ c.body.length ∧ s'.m < s.m ∧ AccAt (FHeap (upd H b9 (.var (i.cs.map .d))) c b1 b5 v5 b6 v6 s'.g s'.seen) 3 1 (s'.st.map fun n => .int .i64 n) a' G := fun hx hy =>
                  ⟨by omega, by rw [hfl, flowIn_old ht hx (by rw [hx5, hy])], hinv', hlen', hm', hacc'⟩
                have e56' : eqn b6 b5 = false := eqn_ne (Ne.symm (of_decide_eq_false e56))
                refine gif_split (fun h7 => ?_) (fun h7 => ?_)
                · have h16 : i.op = 16 := by simpa using h7
                  have h17 : decide (i.op = 17) = false := by rw [h16]; rfl
                  simp -dsimp (maxDischargeDepth := 9) only [go_sem, Nat.reduceBEq, Nat.reduceLT, Nat.reduceAdd, Nat.reduceSub, Nat.reduceMul, Nat.reduceLeDiff, Int.reduceLE, Int.toNat_natCast, Int.natCast_nonneg, List.getElem?_map, List.length_map, Nat.zero_add, eq_self, Bool.not_true, Bool.not_false, h7]
                  refine gif_split (fun h7k => ?_) (fun h7k => ?_)
                  · have hk0 : k = 0 := by simpa using h7k
                    simp -dsimp (maxDischargeDepth := 9) only [go_sem, Nat.reduceBEq, Nat.reduceLT, Nat.reduceAdd, Nat.reduceSub, Nat.reduceMul, Nat.reduceLeDiff, Int.reduceLE, Int.toNat_natCast, Int.natCast_nonneg, List.getElem?_map, List.length_map, Nat.zero_add, eq_self, Bool.not_true, Bool.not_false, h7, h7k]
                    refine clone_acc _ here _ hhl (fun a1 H1 h1' => ?_)
                    simp -dsimp (maxDischargeDepth := 9) only [go_sem, Nat.reduceBEq, Nat.reduceLT, Nat.reduceAdd, Nat.reduceSub, Nat.reduceMul, Nat.reduceLeDiff, Int.reduceLE, Int.toNat_natCast, Int.natCast_nonneg, List.getElem?_map, List.length_map, Nat.zero_add, eq_self, Bool.not_true, Bool.not_false]
                    refine newV_intro (fun bn vn hbn hnn hmn hvn => ?_)
                    simp -dsimp (maxDischargeDepth := 9) only [go_sem, Nat.reduceBEq, Nat.reduceLT, Nat.reduceAdd, Nat.reduceSub, Nat.reduceMul, Nat.reduceLeDiff, Int.reduceLE, Int.toNat_natCast, Int.natCast_nonneg, List.getElem?_map, List.length_map, Nat.zero_add, eq_self, Bool.not_true, Bool.not_false]
                    refine appTo_acc (h1'.up hbn) ?_ (fun a14 H2 h14 => ?_)
                    · simp only [List.length_map, List.length_cons, List.length_nil]; omega
                    have hth : (here.map fun n => D.int .i64 n) ++ [D.int .i64 (n : Int)] = (thenI i n k here).map fun n => D.int .i64 n := by
                      simp only [thenI, if_pos (And.intro h16 hk0), List.map_append, List.map_cons, List.map_nil]
                    rw [hth] at h14
                    clear hth h1' hbn hnn hmn hvn
                    have hle2 := h14.le
                    have hH6 : H2 b6 = some (.arr 4 1 v6 (s'.seen.map .bool)) := hle2 _ _ hG6
                    have hH5 : H2 b5 = some (.arr 27 1 v5 (s'.g.map ints)) := hle2 _ _ hG5
                    simp -dsimp (maxDischargeDepth := 9) only [go_sem, Nat.reduceBEq, Nat.reduceLT, Nat.reduceAdd, Nat.reduceSub, Nat.reduceMul, Nat.reduceLeDiff, Int.reduceLE, Int.toNat_natCast, Int.natCast_nonneg, List.getElem?_map, List.length_map, Nat.zero_add, eq_self, Bool.not_true, Bool.not_false, hH6, hx, hml6]
                    cases x with
                    | false =>
                      simp -dsimp (maxDischargeDepth := 9) only [go_sem, Nat.reduceBEq, Nat.reduceLT, Nat.reduceAdd, Nat.reduceSub, Nat.reduceMul, Nat.reduceLeDiff, Int.reduceLE, Int.toNat_natCast, Int.natCast_nonneg, List.getElem?_map, List.length_map, Nat.zero_add, eq_self, Bool.not_true, Bool.not_false, hH6, hx, hml6, hml5, e56, e56', hH5, hx5]
                      have hs14 := h14.set (o' := .arr 4 1 v6 ((s'.seen.map D.bool).set m (.bool true))) hG6
                      refine putE_deep (AccAt.deep hs14 (fun H3 h3 => ?_))
                      have hG3 : H3 b5 = some (.arr 27 1 v5 (s'.g.map ints)) := h3 _ _ (by simp -dsimp (maxDischargeDepth := 9) only [go_sem, Nat.reduceBEq, Nat.reduceLT, Nat.reduceAdd, Nat.reduceSub, Nat.reduceMul, Nat.reduceLeDiff, Int.reduceLE, Int.toNat_natCast, Int.natCast_nonneg, List.getElem?_map, List.length_map, Nat.zero_add, eq_self, Bool.not_true, Bool.not_false, e56, hG5])
                      simp -dsimp (maxDischargeDepth := 9) only [go_sem, Nat.reduceBEq, Nat.reduceLT, Nat.reduceAdd, Nat.reduceSub, Nat.reduceMul, Nat.reduceLeDiff, Int.reduceLE, Int.toNat_natCast, Int.natCast_nonneg, List.getElem?_map, List.length_map, Nat.zero_add, eq_self, Bool.not_true, Bool.not_false, hG3, hx5, hml5]
                      refine newV_intro (fun bn vn hbn hnn hmn hvn => ?_)
                      have hac := FHeap.acc (m := m) (th := thenI i n k here) hacc' e56 h3
                      simp -dsimp (maxDischargeDepth := 9) only [go_sem, Nat.reduceBEq, Nat.reduceLT, Nat.reduceAdd, Nat.reduceSub, Nat.reduceMul, Nat.reduceLeDiff, Int.reduceLE, Int.toNat_natCast, Int.natCast_nonneg, List.getElem?_map, List.length_map, Nat.zero_add, eq_self, Bool.not_true, Bool.not_false]
                      refine appTo_acc (hac.up hbn) ?_ (fun a'' H' h' => ?_)
                      · simp only [List.length_map, List.length_cons, List.length_nil]; have := hinv'.bound; omega
                      simp -dsimp (maxDischargeDepth := 9) only [go_sem, Nat.reduceBEq, Nat.reduceLT, Nat.reduceAdd, Nat.reduceSub, Nat.reduceMul, Nat.reduceLeDiff, Int.reduceLE, Int.toNat_natCast, Int.natCast_nonneg, List.getElem?_map, List.length_map, Nat.zero_add, eq_self, Bool.not_true, Bool.not_false, hwk]
                      exact roundQ_next (k + 1, ⟨s'.g.set m (thenI i n k here), s'.seen.set m true, s'.st ++ [(m : Int)]⟩, a'') H' (fin1 hx a'' H' (by simpa only [List.map_append, List.map_cons, List.map_nil] using h')) (by simp only; omega) (by simp -dsimp (maxDischargeDepth := 9) only [go_sem, Nat.reduceBEq, Nat.reduceLT, Nat.reduceAdd, Nat.reduceSub, Nat.reduceMul, Nat.reduceLeDiff, Int.reduceLE, Int.toNat_natCast, Int.natCast_nonneg, List.getElem?_map, List.length_map, Nat.zero_add, eq_self, Bool.not_true, Bool.not_false]) (.refl _)
                    | true =>
                      simp -dsimp (maxDischargeDepth := 9) only [go_sem, Nat.reduceBEq, Nat.reduceLT, Nat.reduceAdd, Nat.reduceSub, Nat.reduceMul, Nat.reduceLeDiff, Int.reduceLE, Int.toNat_natCast, Int.natCast_nonneg, List.getElem?_map, List.length_map, Nat.zero_add, eq_self, Bool.not_true, Bool.not_false, hH6, hx, hml6, hml5, hH5, hx5]
                      refine ACall.frz [false, true] ?_
                      simp -dsimp (maxDischargeDepth := 9) only [go_sem, Nat.reduceBEq, Nat.reduceLT, Nat.reduceAdd, Nat.reduceSub, Nat.reduceMul, Nat.reduceLeDiff, Int.reduceLE, Int.toNat_natCast, Int.natCast_nonneg, List.getElem?_map, List.length_map, Nat.zero_add, eq_self, Bool.not_true, Bool.not_false]
                      refine AccAt.deep h14 (fun H3 h3 => ?_)
                      simp -dsimp (maxDischargeDepth := 9) only [go_sem, Nat.reduceBEq, Nat.reduceLT, Nat.reduceAdd, Nat.reduceSub, Nat.reduceMul, Nat.reduceLeDiff, Int.reduceLE, Int.toNat_natCast, Int.natCast_nonneg, List.getElem?_map, List.length_map, Nat.zero_add, eq_self, Bool.not_true, Bool.not_false]
                      refine equal_ok _ y (thenI i n k here) (by have := hinv'.len y (List.mem_of_getElem? hx5); omega) _ ?_
                      simp -dsimp (maxDischargeDepth := 9) only [go_sem, Nat.reduceBEq, Nat.reduceLT, Nat.reduceAdd, Nat.reduceSub, Nat.reduceMul, Nat.reduceLeDiff, Int.reduceLE, Int.toNat_natCast, Int.natCast_nonneg, List.getElem?_map, List.length_map, Nat.zero_add, eq_self, Bool.not_true, Bool.not_false]
                      refine gif_split (fun h8 => ?_) (fun h8 => ?_)
                      · simp -dsimp (maxDischargeDepth := 9) only [go_sem, Nat.reduceBEq, Nat.reduceLT, Nat.reduceAdd, Nat.reduceSub, Nat.reduceMul, Nat.reduceLeDiff, Int.reduceLE, Int.toNat_natCast, Int.natCast_nonneg, List.getElem?_map, List.length_map, Nat.zero_add, eq_self, Bool.not_true, Bool.not_false]
                        exact retNone ((hFH9 _ _).trans (hle.trans h3)) (fin2 hx (by simpa using h8))
                      · simp -dsimp (maxDischargeDepth := 9) only [go_sem, Nat.reduceBEq, Nat.reduceLT, Nat.reduceAdd, Nat.reduceSub, Nat.reduceMul, Nat.reduceLeDiff, Int.reduceLE, Int.toNat_natCast, Int.natCast_nonneg, List.getElem?_map, List.length_map, Nat.zero_add, eq_self, Bool.not_true, Bool.not_false, hwk]
                        refine roundQ_next (k + 1, s', a') H3 ?_ (by simp only; omega) (by simp -dsimp (maxDischargeDepth := 9) only [go_sem, Nat.reduceBEq, Nat.reduceLT, Nat.reduceAdd, Nat.reduceSub, Nat.reduceMul, Nat.reduceLeDiff, Int.reduceLE, Int.toNat_natCast, Int.natCast_nonneg, List.getElem?_map, List.length_map, Nat.zero_add, eq_self, Bool.not_true, Bool.not_false]) (.refl _)
                        obtain ⟨q1, q2, q3, q4, q5, q6⟩ := fin3 hx (by simpa using h8)
                        exact ⟨q1, q2, q3, q4, q5, q6.mono h3⟩
                  · have hk0 : k ≠ 0 := by simpa using h7k
                    have hTH : thenI i n k here = here := by simp [thenI, hk0, h16]
                    simp -dsimp (maxDischargeDepth := 9) only [go_sem, Nat.reduceBEq, Nat.reduceLT, Nat.reduceAdd, Nat.reduceSub, Nat.reduceMul, Nat.reduceLeDiff, Int.reduceLE, Int.toNat_natCast, Int.natCast_nonneg, List.getElem?_map, List.length_map, Nat.zero_add, eq_self, Bool.not_true, Bool.not_false, h7, h7k, h17, hG9, Ins.cs]
                    simp -dsimp (maxDischargeDepth := 9) only [go_sem, Nat.reduceBEq, Nat.reduceLT, Nat.reduceAdd, Nat.reduceSub, Nat.reduceMul, Nat.reduceLeDiff, Int.reduceLE, Int.toNat_natCast, Int.natCast_nonneg, List.getElem?_map, List.length_map, Nat.zero_add, eq_self, Bool.not_true, Bool.not_false, hG6, hx, hml6]
                    cases x with
                    | false =>
                      simp -dsimp (maxDischargeDepth := 9) only [go_sem, Nat.reduceBEq, Nat.reduceLT, Nat.reduceAdd, Nat.reduceSub, Nat.reduceMul, Nat.reduceLeDiff, Int.reduceLE, Int.toNat_natCast, Int.natCast_nonneg, List.getElem?_map, List.length_map, Nat.zero_add, eq_self, Bool.not_true, Bool.not_false, hG6, hx, hml6, hml5, e56, e56', hG5, hx5]
                      refine newV_intro (fun bn vn hbn hnn hmn hvn => ?_)
                      have hac := FHeap.acc (m := m) (th := here) hacc' e56 (.refl _)
                      simp -dsimp (maxDischargeDepth := 9) only [go_sem, Nat.reduceBEq, Nat.reduceLT, Nat.reduceAdd, Nat.reduceSub, Nat.reduceMul, Nat.reduceLeDiff, Int.reduceLE, Int.toNat_natCast, Int.natCast_nonneg, List.getElem?_map, List.length_map, Nat.zero_add, eq_self, Bool.not_true, Bool.not_false, hG6, hx, hml6]
                      refine appTo_acc (hac.up hbn) ?_ (fun a'' H' h' => ?_)
                      · simp only [List.length_map, List.length_cons, List.length_nil]; have := hinv'.bound; omega
                      simp -dsimp (maxDischargeDepth := 9) only [go_sem, Nat.reduceBEq, Nat.reduceLT, Nat.reduceAdd, Nat.reduceSub, Nat.reduceMul, Nat.reduceLeDiff, Int.reduceLE, Int.toNat_natCast, Int.natCast_nonneg, List.getElem?_map, List.length_map, Nat.zero_add, eq_self, Bool.not_true, Bool.not_false, hwk]
                      exact roundQ_next (k + 1, ⟨s'.g.set m here, s'.seen.set m true, s'.st ++ [(m : Int)]⟩, a'') H' (by have q := fin1 hx a'' H'; rw [hTH] at q; exact q (by simpa only [List.map_append, List.map_cons, List.map_nil] using h')) (by simp only; omega) (by simp -dsimp (maxDischargeDepth := 9) only [go_sem, Nat.reduceBEq, Nat.reduceLT, Nat.reduceAdd, Nat.reduceSub, Nat.reduceMul, Nat.reduceLeDiff, Int.reduceLE, Int.toNat_natCast, Int.natCast_nonneg, List.getElem?_map, List.length_map, Nat.zero_add, eq_self, Bool.not_true, Bool.not_false]) (.refl _)
                    | true =>
                      simp -dsimp (maxDischargeDepth := 9) only [go_sem, Nat.reduceBEq, Nat.reduceLT, Nat.reduceAdd, Nat.reduceSub, Nat.reduceMul, Nat.reduceLeDiff, Int.reduceLE, Int.toNat_natCast, Int.natCast_nonneg, List.getElem?_map, List.length_map, Nat.zero_add, eq_self, Bool.not_true, Bool.not_false, hG6, hx, hml6, hml5, hG5, hx5]
                      refine equal_ok _ y here (by have := hinv'.len y (List.mem_of_getElem? hx5); omega) _ ?_
                      simp -dsimp (maxDischargeDepth := 9) only [go_sem, Nat.reduceBEq, Nat.reduceLT, Nat.reduceAdd, Nat.reduceSub, Nat.reduceMul, Nat.reduceLeDiff, Int.reduceLE, Int.toNat_natCast, Int.natCast_nonneg, List.getElem?_map, List.length_map, Nat.zero_add, eq_self, Bool.not_true, Bool.not_false]
                      refine gif_split (fun h8 => ?_) (fun h8 => ?_)
                      · simp -dsimp (maxDischargeDepth := 9) only [go_sem, Nat.reduceBEq, Nat.reduceLT, Nat.reduceAdd, Nat.reduceSub, Nat.reduceMul, Nat.reduceLeDiff, Int.reduceLE, Int.toNat_natCast, Int.natCast_nonneg, List.getElem?_map, List.length_map, Nat.zero_add, eq_self, Bool.not_true, Bool.not_false]
                        exact retNone ((hFH9 _ _).trans hle) (fin2 hx (by simpa [hTH] using h8))
                      · simp -dsimp (maxDischargeDepth := 9) only [go_sem, Nat.reduceBEq, Nat.reduceLT, Nat.reduceAdd, Nat.reduceSub, Nat.reduceMul, Nat.reduceLeDiff, Int.reduceLE, Int.toNat_natCast, Int.natCast_nonneg, List.getElem?_map, List.length_map, Nat.zero_add, eq_self, Bool.not_true, Bool.not_false, hwk]
                        exact roundQ_next (k + 1, s', a') G (fin3 hx (by simpa [hTH] using h8)) (by simp only; omega) (by simp -dsimp (maxDischargeDepth := 9) only [go_sem, Nat.reduceBEq, Nat.reduceLT, Nat.reduceAdd, Nat.reduceSub, Nat.reduceMul, Nat.reduceLeDiff, Int.reduceLE, Int.toNat_natCast, Int.natCast_nonneg, List.getElem?_map, List.length_map, Nat.zero_add, eq_self, Bool.not_true, Bool.not_false]) (.refl _)
                · have h16 : i.op ≠ 16 := by simpa using h7
                  simp -dsimp (maxDischargeDepth := 9) only [go_sem, Nat.reduceBEq, Nat.reduceLT, Nat.reduceAdd, Nat.reduceSub, Nat.reduceMul, Nat.reduceLeDiff, Int.reduceLE, Int.toNat_natCast, Int.natCast_nonneg, List.getElem?_map, List.length_map, Nat.zero_add, eq_self, Bool.not_true, Bool.not_false, h7, hG9, Ins.cs]
                  refine gif_split (fun h7k => ?_) (fun h7k => ?_)
                  · have h17 : i.op = 17 := by simpa using h7k
                    have hhne : here ≠ [] := fun e => hns (.inr ⟨h17, e⟩)
                    have hhpos : 0 < here.length := List.length_pos_iff.2 hhne
                    have hwl : IntKind.i64.wrap ((here.length : Int) - 1) = ((here.length - 1 : Nat) : Int) := by rw [wrap64 (by omega) (by omega)]; omega
                    have hTH : thenI i n k here = here.dropLast := by simp [thenI, h17]
                    have hdl : List.take (here.length - 1) here = here.dropLast := (List.dropLast_eq_take).symm
                    simp -dsimp (maxDischargeDepth := 9) only [go_sem, Nat.reduceBEq, Nat.reduceLT, Nat.reduceAdd, Nat.reduceSub, Nat.reduceMul, Nat.reduceLeDiff, Int.reduceLE, Int.toNat_natCast, Int.natCast_nonneg, List.getElem?_map, List.length_map, Nat.zero_add, eq_self, Bool.not_true, Bool.not_false, h7, h7k, hwl, Nat.sub_le, hdl]
                    simp -dsimp (maxDischargeDepth := 9) only [go_sem, Nat.reduceBEq, Nat.reduceLT, Nat.reduceAdd, Nat.reduceSub, Nat.reduceMul, Nat.reduceLeDiff, Int.reduceLE, Int.toNat_natCast, Int.natCast_nonneg, List.getElem?_map, List.length_map, Nat.zero_add, eq_self, Bool.not_true, Bool.not_false, hG6, hx, hml6]
                    cases x with
                    | false =>
                      simp -dsimp (maxDischargeDepth := 9) only [go_sem, Nat.reduceBEq, Nat.reduceLT, Nat.reduceAdd, Nat.reduceSub, Nat.reduceMul, Nat.reduceLeDiff, Int.reduceLE, Int.toNat_natCast, Int.natCast_nonneg, List.getElem?_map, List.length_map, Nat.zero_add, eq_self, Bool.not_true, Bool.not_false, hG6, hx, hml6, hml5, e56, e56', hG5, hx5]
                      refine newV_intro (fun bn vn hbn hnn hmn hvn => ?_)
                      have hac := FHeap.acc (m := m) (th := here.dropLast) hacc' e56 (.refl _)
                      simp -dsimp (maxDischargeDepth := 9) only [go_sem, Nat.reduceBEq, Nat.reduceLT, Nat.reduceAdd, Nat.reduceSub, Nat.reduceMul, Nat.reduceLeDiff, Int.reduceLE, Int.toNat_natCast, Int.natCast_nonneg, List.getElem?_map, List.length_map, Nat.zero_add, eq_self, Bool.not_true, Bool.not_false, hG6, hx, hml6]
                      refine appTo_acc (hac.up hbn) ?_ (fun a'' H' h' => ?_)
                      · simp only [List.length_map, List.length_cons, List.length_nil]; have := hinv'.bound; omega
                      simp -dsimp (maxDischargeDepth := 9) only [go_sem, Nat.reduceBEq, Nat.reduceLT, Nat.reduceAdd, Nat.reduceSub, Nat.reduceMul, Nat.reduceLeDiff, Int.reduceLE, Int.toNat_natCast, Int.natCast_nonneg, List.getElem?_map, List.length_map, Nat.zero_add, eq_self, Bool.not_true, Bool.not_false, hwk]
                      exact roundQ_next (k + 1, ⟨s'.g.set m here.dropLast, s'.seen.set m true, s'.st ++ [(m : Int)]⟩, a'') H' (by have q := fin1 hx a'' H'; rw [hTH] at q; exact q (by simpa only [List.map_append, List.map_cons, List.map_nil] using h')) (by simp only; omega) (by simp -dsimp (maxDischargeDepth := 9) only [go_sem, Nat.reduceBEq, Nat.reduceLT, Nat.reduceAdd, Nat.reduceSub, Nat.reduceMul, Nat.reduceLeDiff, Int.reduceLE, Int.toNat_natCast, Int.natCast_nonneg, List.getElem?_map, List.length_map, Nat.zero_add, eq_self, Bool.not_true, Bool.not_false]) (.refl _)
                    | true =>
                      simp -dsimp (maxDischargeDepth := 9) only [go_sem, Nat.reduceBEq, Nat.reduceLT, Nat.reduceAdd, Nat.reduceSub, Nat.reduceMul, Nat.reduceLeDiff, Int.reduceLE, Int.toNat_natCast, Int.natCast_nonneg, List.getElem?_map, List.length_map, Nat.zero_add, eq_self, Bool.not_true, Bool.not_false, hG6, hx, hml6, hml5, hG5, hx5]
                      refine equal_ok _ y here.dropLast (by have := hinv'.len y (List.mem_of_getElem? hx5); omega) _ ?_
                      simp -dsimp (maxDischargeDepth := 9) only [go_sem, Nat.reduceBEq, Nat.reduceLT, Nat.reduceAdd, Nat.reduceSub, Nat.reduceMul, Nat.reduceLeDiff, Int.reduceLE, Int.toNat_natCast, Int.natCast_nonneg, List.getElem?_map, List.length_map, Nat.zero_add, eq_self, Bool.not_true, Bool.not_false]
                      refine gif_split (fun h8 => ?_) (fun h8 => ?_)
                      · simp -dsimp (maxDischargeDepth := 9) only [go_sem, Nat.reduceBEq, Nat.reduceLT, Nat.reduceAdd, Nat.reduceSub, Nat.reduceMul, Nat.reduceLeDiff, Int.reduceLE, Int.toNat_natCast, Int.natCast_nonneg, List.getElem?_map, List.length_map, Nat.zero_add, eq_self, Bool.not_true, Bool.not_false]
                        exact retNone ((hFH9 _ _).trans hle) (fin2 hx (by simpa [hTH] using h8))
                      · simp -dsimp (maxDischargeDepth := 9) only [go_sem, Nat.reduceBEq, Nat.reduceLT, Nat.reduceAdd, Nat.reduceSub, Nat.reduceMul, Nat.reduceLeDiff, Int.reduceLE, Int.toNat_natCast, Int.natCast_nonneg, List.getElem?_map, List.length_map, Nat.zero_add, eq_self, Bool.not_true, Bool.not_false, hwk]
                        exact roundQ_next (k + 1, s', a') G (fin3 hx (by simpa [hTH] using h8)) (by simp only; omega) (by simp -dsimp (maxDischargeDepth := 9) only [go_sem, Nat.reduceBEq, Nat.reduceLT, Nat.reduceAdd, Nat.reduceSub, Nat.reduceMul, Nat.reduceLeDiff, Int.reduceLE, Int.toNat_natCast, Int.natCast_nonneg, List.getElem?_map, List.length_map, Nat.zero_add, eq_self, Bool.not_true, Bool.not_false]) (.refl _)
                  · have h17 : i.op ≠ 17 := by simpa using h7k
                    have hTH : thenI i n k here = here := by simp [thenI, h16, h17]
                    simp -dsimp (maxDischargeDepth := 9) only [go_sem, Nat.reduceBEq, Nat.reduceLT, Nat.reduceAdd, Nat.reduceSub, Nat.reduceMul, Nat.reduceLeDiff, Int.reduceLE, Int.toNat_natCast, Int.natCast_nonneg, List.getElem?_map, List.length_map, Nat.zero_add, eq_self, Bool.not_true, Bool.not_false, h7, h7k]
                    simp -dsimp (maxDischargeDepth := 9) only [go_sem, Nat.reduceBEq, Nat.reduceLT, Nat.reduceAdd, Nat.reduceSub, Nat.reduceMul, Nat.reduceLeDiff, Int.reduceLE, Int.toNat_natCast, Int.natCast_nonneg, List.getElem?_map, List.length_map, Nat.zero_add, eq_self, Bool.not_true, Bool.not_false, hG6, hx, hml6]
                    cases x with
                    | false =>
                      simp -dsimp (maxDischargeDepth := 9) only [go_sem, Nat.reduceBEq, Nat.reduceLT, Nat.reduceAdd, Nat.reduceSub, Nat.reduceMul, Nat.reduceLeDiff, Int.reduceLE, Int.toNat_natCast, Int.natCast_nonneg, List.getElem?_map, List.length_map, Nat.zero_add, eq_self, Bool.not_true, Bool.not_false, hG6, hx, hml6, hml5, e56, e56', hG5, hx5]
                      refine newV_intro (fun bn vn hbn hnn hmn hvn => ?_)
                      have hac := FHeap.acc (m := m) (th := here) hacc' e56 (.refl _)
                      simp -dsimp (maxDischargeDepth := 9) only [go_sem, Nat.reduceBEq, Nat.reduceLT, Nat.reduceAdd, Nat.reduceSub, Nat.reduceMul, Nat.reduceLeDiff, Int.reduceLE, Int.toNat_natCast, Int.natCast_nonneg, List.getElem?_map, List.length_map, Nat.zero_add, eq_self, Bool.not_true, Bool.not_false, hG6, hx, hml6]
                      refine appTo_acc (hac.up hbn) ?_ (fun a'' H' h' => ?_)
                      · simp only [List.length_map, List.length_cons, List.length_nil]; have := hinv'.bound; omega
                      simp -dsimp (maxDischargeDepth := 9) only [go_sem, Nat.reduceBEq, Nat.reduceLT, Nat.reduceAdd, Nat.reduceSub, Nat.reduceMul, Nat.reduceLeDiff, Int.reduceLE, Int.toNat_natCast, Int.natCast_nonneg, List.getElem?_map, List.length_map, Nat.zero_add, eq_self, Bool.not_true, Bool.not_false, hwk]
                      exact roundQ_next (k + 1, ⟨s'.g.set m here, s'.seen.set m true, s'.st ++ [(m : Int)]⟩, a'') H' (by have q := fin1 hx a'' H'; rw [hTH] at q; exact q (by simpa only [List.map_append, List.map_cons, List.map_nil] using h')) (by simp only; omega) (by simp -dsimp (maxDischargeDepth := 9) only [go_sem, Nat.reduceBEq, Nat.reduceLT, Nat.reduceAdd, Nat.reduceSub, Nat.reduceMul, Nat.reduceLeDiff, Int.reduceLE, Int.toNat_natCast, Int.natCast_nonneg, List.getElem?_map, List.length_map, Nat.zero_add, eq_self, Bool.not_true, Bool.not_false]) (.refl _)
                    | true =>
                      simp -dsimp (maxDischargeDepth := 9) only [go_sem, Nat.reduceBEq, Nat.reduceLT, Nat.reduceAdd, Nat.reduceSub, Nat.reduceMul, Nat.reduceLeDiff, Int.reduceLE, Int.toNat_natCast, Int.natCast_nonneg, List.getElem?_map, List.length_map, Nat.zero_add, eq_self, Bool.not_true, Bool.not_false, hG6, hx, hml6, hml5, hG5, hx5]
                      refine equal_ok _ y here (by have := hinv'.len y (List.mem_of_getElem? hx5); omega) _ ?_
                      simp -dsimp (maxDischargeDepth := 9) only [go_sem, Nat.reduceBEq, Nat.reduceLT, Nat.reduceAdd, Nat.reduceSub, Nat.reduceMul, Nat.reduceLeDiff, Int.reduceLE, Int.toNat_natCast, Int.natCast_nonneg, List.getElem?_map, List.length_map, Nat.zero_add, eq_self, Bool.not_true, Bool.not_false]
                      refine gif_split (fun h8 => ?_) (fun h8 => ?_)
                      · simp -dsimp (maxDischargeDepth := 9) only [go_sem, Nat.reduceBEq, Nat.reduceLT, Nat.reduceAdd, Nat.reduceSub, Nat.reduceMul, Nat.reduceLeDiff, Int.reduceLE, Int.toNat_natCast, Int.natCast_nonneg, List.getElem?_map, List.length_map, Nat.zero_add, eq_self, Bool.not_true, Bool.not_false]
                        exact retNone ((hFH9 _ _).trans hle) (fin2 hx (by simpa [hTH] using h8))
                      · simp -dsimp (maxDischargeDepth := 9) only [go_sem, Nat.reduceBEq, Nat.reduceLT, Nat.reduceAdd, Nat.reduceSub, Nat.reduceMul, Nat.reduceLeDiff, Int.reduceLE, Int.toNat_natCast, Int.natCast_nonneg, List.getElem?_map, List.length_map, Nat.zero_add, eq_self, Bool.not_true, Bool.not_false, hwk]
                        exact roundQ_next (k + 1, s', a') G (fin3 hx (by simpa [hTH] using h8)) (by simp only; omega) (by simp -dsimp (maxDischargeDepth := 9) only [go_sem, Nat.reduceBEq, Nat.reduceLT, Nat.reduceAdd, Nat.reduceSub, Nat.reduceMul, Nat.reduceLeDiff, Int.reduceLE, Int.toNat_natCast, Int.natCast_nonneg, List.getElem?_map, List.length_map, Nat.zero_add, eq_self, Bool.not_true, Bool.not_false]) (.refl _)
              · have hk' : k = (goesI n i).length := by simp at h6; omega
                subst hk'
                have hrun2 : ∀ r, FRun c.body s' r → FRun c.body (flowStart c) r := fun r hr => hrun r (.step s s' st n i here r hst (by simpa using hi) (by simpa using hhere) hns (by rw [show ({ s with st := st } : FS) = ⟨s.g, s.seen, st⟩ from rfl, hfl]; simp [flowIn]) hr)
                rw [FHeap_out h91 h95 h96] at hacc'
                simp -dsimp (maxDischargeDepth := 9) only [go_sem, Nat.reduceBEq, Nat.reduceLT, Nat.reduceAdd, Nat.reduceSub, Nat.reduceMul, Nat.reduceLeDiff, Int.reduceLE, Int.toNat_natCast, Int.natCast_nonneg, List.getElem?_map, List.length_map, Nat.zero_add, eq_self, Bool.not_true, Bool.not_false]
                exact roundQ_next (s', a') G ⟨hinv', hrun2, hacc'.down (hFn _ _)⟩ hm' (by simp -dsimp (maxDischargeDepth := 9) only [go_sem, Nat.reduceBEq, Nat.reduceLT, Nat.reduceAdd, Nat.reduceSub, Nat.reduceMul, Nat.reduceLeDiff, Int.reduceLE, Int.toNat_natCast, Int.natCast_nonneg, List.getElem?_map, List.length_map, Nat.zero_add, eq_self, Bool.not_true, Bool.not_false]) (.refl _)
          · have hst : s.st = [] := by
              cases e : s.st with
              | nil => rfl
              | cons x l => simp [e] at h5
            simp -dsimp (maxDischargeDepth := 9) only [go_sem, Nat.reduceBEq, Nat.reduceLT, Nat.reduceAdd, Nat.reduceSub, Nat.reduceMul, Nat.reduceLeDiff, Int.reduceLE, Int.toNat_natCast, Int.natCast_nonneg, List.getElem?_map, List.length_map, Nat.zero_add, eq_self, Bool.not_true, Bool.not_false]
            have hG5 : G b5 = some (.arr 27 1 v5 (s.g.map ints)) := hacc.le _ _ (hF5 _ _ _)
            refine retW_tup [true, true] ?_
            simp -dsimp (maxDischargeDepth := 9) only [go_sem, Nat.reduceBEq, Nat.reduceLT, Nat.reduceAdd, Nat.reduceSub, Nat.reduceMul, Nat.reduceLeDiff, Int.reduceLE, Int.toNat_natCast, Int.natCast_nonneg, List.getElem?_map, List.length_map, Nat.zero_add, eq_self, Bool.not_true, Bool.not_false, hG5]
            refine retW_drop (G := H) ?_ (retW_is (hK (some s.g) (.run _ hgood (hrun _ (.done s hst)))))
            exact leH_upd hfree ((hFH _ _).trans hacc.le)

end Go.Aug

/- The live sets: the plain part. -/
namespace Go.Aug
open Go.Proofs
set_option maxRecDepth 100000
set_option linter.unusedSimpArgs false

/-- A register is live at a place that is reached. -/
inductive LiveAt (c : Cod) (gs : List (List Int)) : Nat → Nat → Prop
  | reads (p : Nat) (i : Ins) (r : Nat) (h : ReachAt c.body p) (hi : c.body[p]? = some i) (hr : (r : Int) ∈ readsI c i) : LiveAt c gs p r
  | goes (p : Nat) (i : Ins) (k : Nat) (t : Nat) (but : List Int) (r : Nat) (h : ReachAt c.body p) (hi : c.body[p]? = some i) (ht : (goesI p i)[k]? = some (t : Int)) (hb : (butI i)[k]? = some but) (hl : LiveAt c gs t r) (hr : (r : Int) ∉ but) : LiveAt c gs p r
  | guard (p : Nat) (i : Ins) (g : List Int) (a : Nat) (tr : Ins) (t : Nat) (r : Nat) (h : ReachAt c.body p) (hi : c.body[p]? = some i) (hra : raisesI i.op = true) (hg : gs[p]? = some g) (ha : g.getLast? = some (a : Int)) (htr : c.body[a]? = some tr) (ht : tr.l = t)
      (hl : LiveAt c gs t r) (hr : (r : Int) ≠ tr.a) : LiveAt c gs p r

theorem LiveAt.reach {c : Cod} {gs : List (List Int)} {p r : Nat} (h : LiveAt c gs p r) : ReachAt c.body p := by
  cases h <;> assumption

def bitAt (wss : List (List Nat)) (p r : Nat) : Bool := hasW ((wss[p]?).getD []) r

/- How many are not in a set. -/
def unsetW (ws : List Nat) : Nat := ws.length * 64 - (listW ws).length
def unset (wss : List (List Nat)) : Nat := (wss.map unsetW).sum

theorem listTo_mono {ws us : List Nat} (h : ∀ r, hasW ws r = true → hasW us r = true) : ∀ n, (listTo ws n).length ≤ (listTo us n).length
  | 0 => Nat.le_refl _
  | n + 1 => by
    have := listTo_mono h n
    simp only [listTo]
    by_cases e : hasW ws n = true
    · rw [if_pos e, if_pos (h n e)]; simpa using this
    · rw [if_neg e]; split
      · simp; omega
      · exact this
theorem listTo_lt {ws us : List Nat} (h : ∀ r, hasW ws r = true → hasW us r = true) {r : Nat} (h1 : hasW ws r = false) (h2 : hasW us r = true) : ∀ n, r < n → (listTo ws n).length < (listTo us n).length
  | 0, hr => by omega
  | n + 1, hr => by
    simp only [listTo]
    by_cases e : r = n
    · subst e
      have := listTo_mono h r
      rw [if_neg (by simp [h1]), if_pos h2]; simp; omega
    · have := listTo_lt h h1 h2 n (by omega)
      by_cases e : hasW ws n = true
      · rw [if_pos e, if_pos (h n e)]; simpa using this
      · rw [if_neg e]; split
        · simp; omega
        · exact this

theorem unsetW_le {ws us : List Nat} (hl : us.length = ws.length) (h : ∀ r, hasW ws r = true → hasW us r = true) : unsetW us ≤ unsetW ws := by
  have := listTo_mono h (ws.length * 64)
  simp only [unsetW, listW, hl]; omega
theorem unsetW_lt {ws us : List Nat} (hl : us.length = ws.length) (h : ∀ r, hasW ws r = true → hasW us r = true) {r : Nat} (hr : r < ws.length * 64) (h1 : hasW ws r = false) (h2 : hasW us r = true) : unsetW us < unsetW ws := by
  have := listTo_lt h h1 h2 (ws.length * 64) hr
  have h3 := listTo_length us (ws.length * 64)
  simp only [unsetW, listW, hl]; omega

theorem unset_set {wss : List (List Nat)} : ∀ {p : Nat} {ws us : List Nat}, wss[p]? = some ws → unset (wss.set p us) + unsetW ws = unset wss + unsetW us := by
  induction wss with
  | nil => intro p ws us h; simp at h
  | cons x l ih =>
    intro p ws us h
    cases p with
    | zero => simp at h; subst h; simp [unset]; omega
    | succ p =>
      simp only [List.getElem?_cons_succ] at h
      have := ih (us := us) h
      simp only [unset, List.set_cons_succ, List.map_cons, List.sum_cons] at this ⊢; omega

theorem hasW_bit (ws : List Nat) (k j : Nat) (hj : j < 64) : hasW ws (k * 64 + j) = ((ws[k]?).getD 0).testBit j := by
  have h1 : (k * 64 + j) / 64 = k := by omega
  have h2 : (k * 64 + j) % 64 = j := by omega
  simp only [hasW, h1, h2]
theorem hasW_out {ws : List Nat} {r : Nat} (h : ws.length * 64 ≤ r) : hasW ws r = false := by
  have : ws.length ≤ r / 64 := by omega
  simp only [hasW, List.getElem?_eq_none this, Option.getD_none, Nat.zero_testBit]

theorem hasW_put {ws : List Nat} {r : Nat} (hr : r / 64 < ws.length) (q : Nat) : hasW (putW ws r) q = (hasW ws q || decide (q = r)) := by
  simp only [hasW, putW, List.getElem?_set]
  by_cases e : r / 64 = q / 64
  · rw [if_pos e, if_pos (by omega), Option.getD_some, Nat.testBit_or, Nat.testBit_two_pow, e]
    congr 1
    have : r % 64 = q % 64 ↔ q = r := by omega
    simp only [this]
  · rw [if_neg e]
    have : ¬ q = r := by rintro rfl; exact e rfl
    simp [this]

theorem hasW_add {ws us : List Nat} {but : List Int} (hl : us.length = ws.length) (hb : ∀ r ∈ but, 0 ≤ r) (q : Nat) : hasW (addW ws us but) q = (hasW ws q || (hasW us q && !but.contains (q : Int))) := by
  obtain ⟨k, j, hj, rfl⟩ : ∃ k j, j < 64 ∧ q = k * 64 + j := ⟨q / 64, q % 64, by omega, by omega⟩
  rw [hasW_bit _ _ _ hj, hasW_bit _ _ _ hj, hasW_bit _ _ _ hj, addW, addTo_get]
  by_cases hk : k < us.length
  · rw [if_pos ⟨hk, by omega⟩, Option.getD_some, Nat.testBit_or, clearW_bit k j hj but _ hb]
  · rw [if_neg (by omega), List.getElem?_eq_none (l := us) (by omega)]
    simp

theorem words_ext {ws us : List Nat} (hl : us.length = ws.length) (hw : wordsOk ws) (hu : wordsOk us) (h : ∀ r, hasW us r = hasW ws r) : us = ws := by
  apply List.ext_getElem hl
  intro k h1 h2
  apply Nat.eq_of_testBit_eq
  intro j
  by_cases hj : j < 64
  · have := h (k * 64 + j)
    rw [hasW_bit _ _ _ hj, hasW_bit _ _ _ hj, List.getElem?_eq_getElem h1, List.getElem?_eq_getElem h2] at this
    exact this
  · have big : ∀ x, x < 18446744073709551616 → x.testBit j = false := fun x hx => Nat.testBit_lt_two_pow (Nat.lt_of_lt_of_le hx (Nat.pow_le_pow_right (n := 2) (by omega) (by omega : 64 ≤ j)))
    rw [big _ (hu _ (List.getElem_mem h1)), big _ (hw _ (List.getElem_mem h2))]

theorem addW_length (ws us : List Nat) (but : List Int) : (addW ws us but).length = ws.length := addTo_length ..
theorem putW_length (ws : List Nat) (r : Nat) : (putW ws r).length = ws.length := by simp [putW]
theorem putW_ok {ws : List Nat} (hw : wordsOk ws) (r : Nat) : wordsOk (putW ws r) := by
  intro w hm
  rcases List.mem_or_eq_of_mem_set hm with h | rfl
  · exact hw w h
  · refine Nat.or_lt_two_pow (n := 64) ?_ ?_
    · cases h : ws[r / 64]? with
      | none => simp
      | some x => exact hw x (List.mem_of_getElem? h)
    · exact Nat.lt_of_lt_of_le (Nat.pow_lt_pow_right (by omega) (Nat.mod_lt r (by omega))) (by decide)

/-- Where the reckoning of a round stands: what it began with, what it has now, whether something has changed. -/
structure SInv (c : Cod) (gs : List (List Int)) (W : Nat) (w0 wss : List (List Nat)) (ch : Bool) : Prop where
  len : wss.length = c.body.length
  ok : ∀ ws ∈ wss, ws.length = W ∧ wordsOk ws
  sound : ∀ p r, bitAt wss p r = true → LiveAt c gs p r
  keep : ch = false → wss = w0
  less : ch = true → unset wss < unset w0

theorem bitAt_set {wss : List (List Nat)} {p : Nat} {ws : List Nat} (hp : p < wss.length) (q r : Nat) : bitAt (wss.set p ws) q r = if q = p then hasW ws r else bitAt wss q r := by
  simp only [bitAt, List.getElem?_set]
  by_cases e : p = q
  · subst e; simp [hp]
  · rw [if_neg e, if_neg (Ne.symm e)]
theorem bitAt_get {wss : List (List Nat)} {p : Nat} {ws : List Nat} (h : wss[p]? = some ws) (r : Nat) : bitAt wss p r = hasW ws r := by simp [bitAt, h]

/-- A set of a place is made greater. -/
theorem SInv.grown {c : Cod} {gs : List (List Int)} {W : Nat} {w0 wss : List (List Nat)} {ch : Bool} (h : SInv c gs W w0 wss ch) {p : Nat} {ws us : List Nat} (hp : wss[p]? = some ws) (hl : us.length = W) (hu : wordsOk us)
    (hle : ∀ r, hasW ws r = true → hasW us r = true) (hs : ∀ r, hasW us r = true → hasW ws r = true ∨ LiveAt c gs p r) : SInv c gs W w0 (wss.set p us) (ch || !decide (us = ws)) := by
  obtain ⟨hpl, _⟩ := List.getElem?_eq_some_iff.1 hp
  obtain ⟨hwl, hww⟩ := h.ok ws (List.mem_of_getElem? hp)
  have hset := unset_set (us := us) hp
  by_cases e : us = ws
  · subst e
    have hsame : wss.set p us = wss := by
      apply List.ext_getElem?
      intro j
      rw [List.getElem?_set]
      by_cases e : p = j
      · subst e; rw [if_pos rfl, if_pos hpl, hp]
      · rw [if_neg e]
    rw [hsame]; simpa using h
  · have hlt : unsetW us < unsetW ws := by
      have : ∃ r, r < ws.length * 64 ∧ hasW ws r = false ∧ hasW us r = true := by
        apply Classical.byContradiction
        intro hn
        apply e
        refine words_ext (by omega) hww hu fun r => ?_
        by_cases h1 : hasW ws r = true
        · rw [h1, hle r h1]
        · by_cases h2 : hasW us r = true
          · exfalso; apply hn
            refine ⟨r, ?_, by simpa using h1, h2⟩
            apply Classical.byContradiction; intro h3
            have := hasW_out (ws := us) (r := r) (by omega)
            rw [this] at h2; cases h2
          · rw [Bool.not_eq_true] at h1 h2; rw [h1, h2]
      obtain ⟨r, hr, h1, h2⟩ := this
      exact unsetW_lt (by omega) hle hr h1 h2
    rw [decide_eq_false e, Bool.not_false, Bool.or_true]
    refine ⟨by simp [h.len], ?_, ?_, fun x => (by cases x), fun _ => ?_⟩
    · intro x hx
      rcases List.mem_or_eq_of_mem_set hx with hx | rfl
      · exact h.ok x hx
      · exact ⟨hl, hu⟩
    · intro q r hq
      rw [bitAt_set hpl] at hq
      split at hq
      · rename_i eq; subst eq
        rcases hs r hq with h1 | h1
        · exact h.sound q r (by rw [bitAt_get hp]; exact h1)
        · exact h1
      · exact h.sound q r hq
    · have : unset wss ≤ unset w0 := by
        cases ch with
        | false => rw [h.keep rfl]; exact Nat.le_refl _
        | true => exact Nat.le_of_lt (h.less rfl)
      omega

theorem SInv.start {c : Cod} {gs : List (List Int)} {W : Nat} {w0 : List (List Nat)} {ch : Bool} (h : SInv c gs W w0 w0 ch) : ∀ {w : List (List Nat)}, w = w0 → SInv c gs W w w false := by
  rintro w rfl
  exact ⟨h.len, h.ok, h.sound, fun _ => rfl, fun x => (by cases x)⟩

theorem SInv.add {c : Cod} {gs : List (List Int)} {W : Nat} {w0 wss : List (List Nat)} {ch : Bool} (h : SInv c gs W w0 wss ch) {p t : Nat} {ws us : List Nat} {but : List Int} (hp : wss[p]? = some ws) (ht : wss[t]? = some us) (hb : ∀ r ∈ but, 0 ≤ r)
    (hs : ∀ r : Nat, LiveAt c gs t r → (r : Int) ∉ but → LiveAt c gs p r) :
    SInv c gs W w0 (wss.set p (addW ws us but)) (ch || !decide (addW ws us but = ws)) ∧ ((ch || !decide (addW ws us but = ws)) = false → ∀ r : Nat, bitAt w0 t r = true → (r : Int) ∉ but → bitAt w0 p r = true) := by
  obtain ⟨hwl, hww⟩ := h.ok ws (List.mem_of_getElem? hp)
  obtain ⟨hul, huw⟩ := h.ok us (List.mem_of_getElem? ht)
  have hhas := hasW_add (ws := ws) (us := us) (but := but) (by omega) hb
  refine ⟨h.grown hp (by rw [addW_length, hwl]) (addTo_ok but hww huw _) (fun r hr => by rw [hhas, hr, Bool.true_or]) ?_, ?_⟩
  · intro r hr
    rw [hhas, Bool.or_eq_true, Bool.and_eq_true] at hr
    rcases hr with hr | ⟨hr, hn⟩
    · exact .inl hr
    · exact .inr (hs r (h.sound t r (by rw [bitAt_get ht]; exact hr)) (by simpa using hn))
  · intro he r h1 h2
    simp only [Bool.or_eq_false_iff, Bool.not_eq_false', decide_eq_true_eq] at he
    obtain ⟨rfl, he⟩ := he
    rw [← h.keep rfl, bitAt_get ht] at h1
    rw [← h.keep rfl, bitAt_get hp, ← he, hhas, h1]
    simp [h2]

theorem SInv.put {c : Cod} {gs : List (List Int)} {W : Nat} {w0 wss : List (List Nat)} {ch : Bool} (h : SInv c gs W w0 wss ch) {p r : Nat} {ws : List Nat} (hp : wss[p]? = some ws) (hr : r / 64 < W) (hn : hasW ws r = false) (hs : LiveAt c gs p r) :
    SInv c gs W w0 (wss.set p (putW ws r)) true := by
  obtain ⟨hwl, hww⟩ := h.ok ws (List.mem_of_getElem? hp)
  have hhas := hasW_put (ws := ws) (r := r) (by omega)
  have := h.grown (us := putW ws r) hp (by rw [putW_length, hwl]) (putW_ok hww r) (fun q hq => by rw [hhas, hq, Bool.true_or]) (fun q hq => by
    rw [hhas, Bool.or_eq_true, decide_eq_true_eq] at hq
    rcases hq with hq | rfl
    · exact .inl hq
    · exact .inr hs)
  have hne : putW ws r ≠ ws := by
    intro e
    have := hhas r
    rw [e, hn] at this; simp at this
  rw [decide_eq_false hne] at this
  simpa using this

/-- All that a place asks is there. -/
structure ClosedAt (c : Cod) (gs : List (List Int)) (w : List (List Nat)) (p : Nat) : Prop where
  reads : ∀ (i : Ins) (r : Nat), c.body[p]? = some i → (r : Int) ∈ readsI c i → bitAt w p r = true
  goes : ∀ i (k t : Nat) (but : List Int) (r : Nat), c.body[p]? = some i → (goesI p i)[k]? = some (t : Int) → (butI i)[k]? = some but → bitAt w t r = true → (r : Int) ∉ but → bitAt w p r = true
  guard : ∀ i (g : List Int) (a : Nat) (tr : Ins) (t r : Nat), c.body[p]? = some i → raisesI i.op = true → gs[p]? = some g → g.getLast? = some (a : Int) → c.body[a]? = some tr → tr.l = t → bitAt w t r = true → (r : Int) ≠ tr.a → bitAt w p r = true

theorem closed_live {c : Cod} {gs : List (List Int)} {w : List (List Nat)} (h : ∀ p, ReachAt c.body p → ClosedAt c gs w p) {p r : Nat} (hl : LiveAt c gs p r) : bitAt w p r = true := by
  induction hl with
  | reads p i r hp hi hr => exact (h p hp).reads i r hi hr
  | goes p i k t but r hp hi ht hb _ hr ih => exact (h p hp).goes i k t but r hi ht hb ih hr
  | guard p i g a tr t r hp hi hra hg ha htr ht _ hr ih => exact (h p hp).guard i g a tr t r hi hra hg ha htr ht ih hr

/-- What is written on the way number k. -/
def butK (i : Ins) (k : Nat) : List Int := if k = 1 then (if i.op = 16 then [i.a] else []) else writesI i
theorem butK_but {p : Int} {i : Ins} {k : Nat} {t : Int} (ht : (goesI p i)[k]? = some t) : (butI i)[k]? = some (butK i k) := by
  have hk : k < 2 := Nat.lt_of_lt_of_le (List.getElem?_eq_some_iff.1 ht).1 (goesI_length p i)
  have hm : testsI i.op = mayI i := rfl
  unfold goesI at ht
  rw [hm] at ht
  unfold butI butK
  by_cases a1 : i.op = 11
  · rw [if_pos a1] at ht ⊢
    rcases k with _ | _ | k
    · simp [writesI, a1]
    · simp at ht
    · omega
  rw [if_neg a1] at ht ⊢
  by_cases a2 : i.op = 12 ∨ i.op = 13 ∨ i.op = 15
  · rw [if_pos a2] at ht; simp at ht
  rw [if_neg a2] at ht ⊢
  by_cases a3 : i.op = 14
  · rw [if_pos (.inl a3)] at ht; rw [if_pos a3]
    rcases k with _ | _ | k
    · simp [writesI, a3]
    · simp [a3]
    · omega
  by_cases a4 : i.op = 16
  · rw [if_neg a3, if_pos a4]
    rcases k with _ | _ | k
    · simp [writesI, a4]
    · simp [a4]
    · omega
  rw [if_neg (by simp [a3, a4])] at ht
  rw [if_neg a3, if_neg a4]
  by_cases a5 : mayI i = true ∧ i.l ≠ -1
  · rw [if_pos a5]
    rcases k with _ | _ | k
    · simp
    · simp [a4]
    · omega
  · rw [if_neg a5] at ht ⊢
    rcases k with _ | _ | k
    · simp
    · simp at ht
    · omega

end Go.Aug

/- The live sets: the walk. -/
namespace Go.Aug
open Go.Proofs
set_option maxRecDepth 100000
set_option linter.unusedSimpArgs false
attribute [local irreducible] hid andK letA onSome onVar onArr arrOnly onInt onBool onFunc onTup idxA ldV ldD addO ofPart appTo fillL slA srcK nilQ retW gif sgd sguard svc sops sdops sagain aopO aLoad aStore aBin aUn aConv aLen aIndexAddr aIndex aSlice aAppend aBuild aBuildSlice aMakeSlice aField aFieldOf aCallOp deepK deepL frzM putE newK newV growV ACall roundQ thenQ inBlockQ sret cnd szs nilC

/-- A row of sets that are the call's own, each in its block; behind them what is not filled yet. -/
structure SetsP (G : Heap) (bo : Nat) (vo : Value) (bs : List (Nat × Value)) (wss : List (List Nat)) (rest : List D) (H : Heap) : Prop where
  le : LeH G H
  go : G bo = none
  hv : vo.ownBlock = some bo
  out : H bo = some (.arr 62 1 vo ((bs.map fun p => .raw p.2) ++ rest))
  len : bs.length = wss.length
  own : ∀ (i : Nat) (p : Nat × Value) (ws : List Nat), bs[i]? = some p → wss[i]? = some ws → p.2.ownBlock = some p.1 ∧ G p.1 = none ∧ p.1 ≠ bo ∧ H p.1 = some (.arr 89 1 p.2 (wordsD ws))
  inj : ∀ (i j : Nat) (p q : Nat × Value), bs[i]? = some p → bs[j]? = some q → p.1 = q.1 → i = j
abbrev SetsAt (G : Heap) (bo : Nat) (vo : Value) (bs : List (Nat × Value)) (wss : List (List Nat)) (H : Heap) : Prop := SetsP G bo vo bs wss [] H

section
variable {G H : Heap} {bo : Nat} {vo : Value} {bs : List (Nat × Value)} {wss : List (List Nat)} {rest : List D}

theorem SetsP.mono (h : SetsP G bo vo bs wss rest H) {H' : Heap} (hle : LeH H H') : SetsP G bo vo bs wss rest H' :=
  ⟨h.le.trans hle, h.go, h.hv, hle _ _ h.out, h.len, fun i p ws h1 h2 => let ⟨a, b, c, d⟩ := h.own i p ws h1 h2; ⟨a, b, c, hle _ _ d⟩, h.inj⟩

theorem SetsP.both (h : SetsP G bo vo bs wss rest H) {b : Nat} {o : AObj} (hb : H b = none) : SetsP (upd G b o) bo vo bs wss rest (upd H b o) := by
  have ne : ∀ {k : Nat} {x : AObj}, H k = some x → k ≠ b := by rintro k x hk rfl; rw [hb] at hk; cases hk
  have hbo := ne h.out
  refine ⟨leH_both h.le, by rw [upd_ne _ _ hbo]; exact h.go, h.hv, by rw [upd_ne _ _ hbo]; exact h.out, h.len, ?_, h.inj⟩
  intro i p ws h1 h2
  obtain ⟨a, q, c, d⟩ := h.own i p ws h1 h2
  exact ⟨a, by rw [upd_ne _ _ (ne d)]; exact q, c, by rw [upd_ne _ _ (ne d)]; exact d⟩

theorem SetsP.down {b : Nat} {o : AObj} (h : SetsP (upd G b o) bo vo bs wss rest H) (hb : G b = none) : SetsP G bo vo bs wss rest H :=
  ⟨(LeH.up (.refl G) hb).trans h.le, (upd_eq_none.1 h.go).2, h.hv, h.out, h.len, fun i p ws h1 h2 => let ⟨a, q, c, d⟩ := h.own i p ws h1 h2; ⟨a, (upd_eq_none.1 q).2, c, d⟩, h.inj⟩

theorem SetsP.set (h : SetsP G bo vo bs wss rest H) {i : Nat} {b : Nat} {v : Value} {ws : List Nat} (hi : bs[i]? = some (b, v)) (hw : wss[i]? = some ws) (us : List Nat) :
    SetsP G bo vo bs (wss.set i us) rest (upd H b (.arr 89 1 v (wordsD us))) := by
  obtain ⟨h1, h2, h3, h4⟩ := h.own i _ _ hi hw
  simp only at h1 h2 h3 h4
  have hil : i < wss.length := (List.getElem?_eq_some_iff.1 hw).1
  refine ⟨leH_upd h2 h.le, h.go, h.hv, by rw [upd_ne _ _ (Ne.symm h3)]; exact h.out, by simp [h.len], ?_, h.inj⟩
  intro j p w hj hwj
  rw [List.getElem?_set] at hwj
  by_cases e : i = j
  · subst e
    rw [if_pos rfl, if_pos hil, Option.some.injEq] at hwj
    rw [hi] at hj; cases hj; subst hwj
    exact ⟨h1, h2, h3, upd_same ..⟩
  · rw [if_neg e] at hwj
    obtain ⟨a, q, c, d⟩ := h.own j p w hj hwj
    have : p.1 ≠ b := fun e' => e (h.inj i j _ _ hi hj e'.symm)
    exact ⟨a, q, c, by rw [upd_ne _ _ this]; exact d⟩

theorem SetsP.push {x : D} (h : SetsP G bo vo bs wss (x :: rest) H) {b : Nat} {v : Value} {ws : List Nat} (hb : H b = none) (hv : v.ownBlock = some b) :
    SetsP G bo vo (bs ++ [(b, v)]) (wss ++ [ws]) rest (upd (upd H b (.arr 89 1 v (wordsD ws))) bo (.arr 62 1 vo (((bs.map fun p => D.raw p.2) ++ x :: rest).set bs.length (.raw v)))) := by
  have ne : ∀ {k : Nat} {x : AObj}, H k = some x → k ≠ b := by rintro k x hk rfl; rw [hb] at hk; cases hk
  have hbo := ne h.out
  refine ⟨leH_upd h.go (h.le.up hb), h.go, h.hv, ?_, by simp [h.len], ?_, ?_⟩
  · rw [upd_same]
    have : ((bs.map fun p => D.raw p.2) ++ x :: rest).set bs.length (.raw v) = ((bs ++ [(b, v)]).map fun p => D.raw p.2) ++ rest := by
      rw [List.set_append_right _ _ (by simp)]
      simp
    rw [this]
  · intro i p w hi hw
    by_cases e : i < bs.length
    · rw [List.getElem?_append_left e] at hi
      rw [List.getElem?_append_left (by rw [← h.len]; exact e)] at hw
      obtain ⟨a, q, c, d⟩ := h.own i p w hi hw
      exact ⟨a, q, c, by rw [upd_ne _ _ c, upd_ne _ _ (ne d)]; exact d⟩
    · have hil := (List.getElem?_eq_some_iff.1 hi).1
      simp only [List.length_append, List.length_singleton] at hil
      obtain rfl : i = bs.length := by omega
      rw [h.len] at hw
      simp at hi hw
      subst hi hw
      exact ⟨hv, LeH.free h.le hb, Ne.symm hbo, by rw [upd_ne _ _ (Ne.symm hbo), upd_same]⟩
  · have key : ∀ {i : Nat} {p : Nat × Value}, (bs ++ [(b, v)])[i]? = some p → (i < bs.length ∧ p.1 ≠ b ∧ bs[i]? = some p) ∨ (i = bs.length ∧ p.1 = b) := by
      intro i p hi
      have hil := (List.getElem?_eq_some_iff.1 hi).1
      simp only [List.length_append, List.length_singleton] at hil
      by_cases e : i < bs.length
      · rw [List.getElem?_append_left e] at hi
        obtain ⟨w, hw⟩ : ∃ w, wss[i]? = some w := ⟨wss[i]'(by rw [← h.len]; exact e), by simp [← h.len, e]⟩
        obtain ⟨_, _, _, d⟩ := h.own i p w hi hw
        exact .inl ⟨e, ne d, hi⟩
      · obtain rfl : i = bs.length := by omega
        simp at hi; subst hi; exact .inr ⟨rfl, rfl⟩
    intro i j p q hi hj e
    rcases key hi with ⟨_, h1, h2⟩ | ⟨h1, h2⟩ <;> rcases key hj with ⟨_, h3, h4⟩ | ⟨h3, h4⟩
    · exact h.inj i j p q h2 h4 e
    · rw [e] at h1; exact absurd h4 h1
    · rw [← e] at h3; exact absurd h2 h3
    · omega
end

theorem known_reads {c : Cod} {k : Nat} {i : Ins} (h : knownI c k i = true) : ∀ r ∈ readsI c i, 0 ≤ r ∧ r.toNat < c.regs.length := by
  have : (readsI c i).any (fun r => badI c.regs.length r) = false := by
    simp only [knownI, Bool.and_eq_true, Bool.not_eq_true'] at h
    exact h.1.2
  rw [List.any_eq_false] at this
  intro r hr
  have := this r hr
  simp only [badI, Bool.or_eq_true, decide_eq_true_eq, not_or] at this
  omega
theorem known_writes {c : Cod} {k : Nat} {i : Ins} (h : knownI c k i = true) : ∀ r ∈ writesI i, 0 ≤ r ∧ r.toNat < c.regs.length := by
  have : (writesI i).any (fun r => badI c.regs.length r) = false := by
    simp only [knownI, Bool.and_eq_true, Bool.not_eq_true'] at h
    exact h.2
  rw [List.any_eq_false] at this
  intro r hr
  have := this r hr
  simp only [badI, Bool.or_eq_true, decide_eq_true_eq, not_or] at this
  omega
theorem known_try {c : Cod} {k : Nat} {i : Ins} (h : knownI c k i = true) (h16 : i.op = 16) : 0 ≤ i.a ∧ i.a.toNat < c.regs.length := by
  have : badI c.regs.length i.a = false := by
    simp only [knownI, Bool.and_eq_true, Bool.not_eq_true', Bool.or_eq_false_iff] at h
    have := h.1.1.1.2
    simpa [h16] using this
  simp only [badI, Bool.or_eq_false_iff, decide_eq_false_iff_not] at this
  omega
theorem known_butK {c : Cod} {k : Nat} {i : Ins} (h : knownI c k i = true) (j : Nat) : ∀ r ∈ butK i j, 0 ≤ r ∧ r.toNat < c.regs.length := by
  unfold butK
  split
  · split
    · rename_i h16
      intro r hr; simp at hr; subst hr; exact known_try h h16
    · intro r hr; simp at hr
  · exact known_writes h


theorem words_zero (W : Nat) : List.replicate W (D.int .u64 0) = wordsD (List.replicate W 0) := by simp [wordsD]
theorem hasW_zero (W r : Nat) : hasW (List.replicate W 0) r = false := by
  simp only [hasW, List.getElem?_replicate]
  split <;> simp

set_option maxHeartbeats 4000000 in
theorem sets_ok {eb : Nat → Addr} (H : Heap) (c : Cod) (gs : List (List Int)) (hc : CodOk c) (hkn : ∀ k i, c.body[k]? = some i → knownI c k i = true) (hgl : gs.length = c.body.length) (hgt : ∀ x ∈ gs, tries c.body x ∧ x.length < 1099511627776)
    (hpos : 0 < c.body.length) (K : A → Heap → Prop)
    (hK : ∀ bo vo bs wss H', SetsAt H bo vo bs wss H' → wss.length = c.body.length → (∀ ws ∈ wss, ws.length = (c.regs.length + 63) / 64 ∧ wordsOk ws) → (∀ p r, bitAt wss p r = true ↔ LiveAt c gs p r) → K (.own bo vo) H') :
    ACall Tryd.prog (seatV eb) 19 [.d c.d, .d (intss gs)] H K := by
  have hn := hc.n
  have hrg := hc.regs
  generalize hW : (c.regs.length + 63) / 64 = W at hK
  have hWl : W ≤ c.regs.length + 63 := by omega
  have e63 : IntKind.i64.wrap ((c.regs.length : Int) + 63) = ((c.regs.length + 63 : Nat) : Int) := by rw [wrap64 (by omega) (by omega)]; omega
  have e64 : IntKind.i64.wrap (((c.regs.length + 63 : Nat) : Int).tdiv 64) = (W : Int) := by
    rw [Int.tdiv_eq_ediv_of_nonneg (by omega), wrap64 (by omega) (by omega)]; omega
  refine ACall.by mixed fn19 (by simp) ?_
  conv in s19 => cbv
  refine svc_start ?_
  simp -dsimp (maxDischargeDepth := 9) only [go_sem, Nat.reduceBEq, Nat.reduceLT, Nat.reduceAdd, Nat.reduceSub, Nat.reduceMul, Nat.reduceLeDiff, Int.reduceLE, Int.toNat_natCast, Int.natCast_nonneg, List.getElem?_map, List.length_map, Nat.zero_add, eq_self, Bool.not_true, Bool.not_false, Cod.d, Cod.cs]
  refine newK_intro (fun b2 hb2 hn2 hm2 => ?_)
  simp -dsimp (maxDischargeDepth := 9) only [go_sem, Nat.reduceBEq, Nat.reduceLT, Nat.reduceAdd, Nat.reduceSub, Nat.reduceMul, Nat.reduceLeDiff, Int.reduceLE, Int.toNat_natCast, Int.natCast_nonneg, List.getElem?_map, List.length_map, Nat.zero_add, eq_self, Bool.not_true, Bool.not_false, *, Cod.cs]
  refine lreached_ok _ c hn _ (fun rch hrl hrch => ?_)
  simp -dsimp (maxDischargeDepth := 9) only [go_sem, Nat.reduceBEq, Nat.reduceLT, Nat.reduceAdd, Nat.reduceSub, Nat.reduceMul, Nat.reduceLeDiff, Int.reduceLE, Int.toNat_natCast, Int.natCast_nonneg, List.getElem?_map, List.length_map, Nat.zero_add, eq_self, Bool.not_true, Bool.not_false, *]
  refine andK_split (by omega) ?_
  simp -dsimp (maxDischargeDepth := 9) only [go_sem, Nat.reduceBEq, Nat.reduceLT, Nat.reduceAdd, Nat.reduceSub, Nat.reduceMul, Nat.reduceLeDiff, Int.reduceLE, Int.toNat_natCast, Int.natCast_nonneg, List.getElem?_map, List.length_map, Nat.zero_add, eq_self, Bool.not_true, Bool.not_false]
  refine newV_intro (fun bo vo hbo hno hmo hvo => ?_)
  simp -dsimp (maxDischargeDepth := 9) only [go_sem, Nat.reduceBEq, Nat.reduceLT, Nat.reduceAdd, Nat.reduceSub, Nat.reduceMul, Nat.reduceLeDiff, Int.reduceLE, Int.toNat_natCast, Int.natCast_nonneg, List.getElem?_map, List.length_map, Nat.zero_add, eq_self, Bool.not_true, Bool.not_false, List.length_replicate]
  have hle2 : LeH H (upd H b2 (.var (c.cs.map .d))) := leH_upd hb2 (.refl _)
  have hbo' : upd H b2 (.var (c.cs.map .d)) bo = none := hbo
  have base : SetsP (upd H b2 (.var (c.cs.map .d))) bo vo [] [] (List.replicate c.body.length (.slice [])) (upd (upd H b2 (.var (c.cs.map .d))) bo (.arr 62 1 vo (List.replicate c.body.length (.slice [])))) :=
    ⟨LeH.up (.refl _) hbo', hbo', hvo, upd_same .., rfl, by intro i p ws h; simp at h, by intro i j p q h; simp at h⟩
  refine svc_loop (X := Nat × List (Nat × Value)) (fun x => [(1, .d (intss gs)), (2, .ref b2 0), (5, .d (bools rch)), (6, .own bo vo), (25, .d (.int .i64 c.body.length)), (26, .d (.int .i64 x.1))])
    (fun x G => x.1 ≤ c.body.length ∧ SetsP (upd H b2 (.var (c.cs.map .d))) bo vo x.2 (List.replicate x.1 (List.replicate W 0)) (List.replicate (c.body.length - x.1) (.slice [])) G) (fun x => c.body.length - x.1) (0, []) _ ⟨Nat.zero_le _, base⟩ (by simp -dsimp (maxDischargeDepth := 9) only [go_sem, Nat.reduceBEq, Nat.reduceLT, Nat.reduceAdd, Nat.reduceSub, Nat.reduceMul, Nat.reduceLeDiff, Int.reduceLE, Int.toNat_natCast, Int.natCast_nonneg, List.getElem?_map, List.length_map, Nat.zero_add, eq_self, Bool.not_true, Bool.not_false, Int.natCast_zero]) (.refl _) ?_
  rintro ⟨k, bs⟩ G ⟨hk, hS⟩
  simp only at hk hS
  have hbl : bs.length = k := by rw [hS.len, List.length_replicate]
  have hG2 : G b2 = some (.var (c.cs.map .d)) := hS.le _ _ (upd_same ..)
  simp -dsimp (maxDischargeDepth := 9) only [go_sem, Nat.reduceBEq, Nat.reduceLT, Nat.reduceAdd, Nat.reduceSub, Nat.reduceMul, Nat.reduceLeDiff, Int.reduceLE, Int.toNat_natCast, Int.natCast_nonneg, List.getElem?_map, List.length_map, Nat.zero_add, eq_self, Bool.not_true, Bool.not_false]
  refine gif_split (fun h1 => ?_) (fun h1 => ?_)
  · have hk' : k < c.body.length := by simpa using h1
    have hw1 := wrapS (k := k) (by omega)
    simp -dsimp (maxDischargeDepth := 9) only [go_sem, Nat.reduceBEq, Nat.reduceLT, Nat.reduceAdd, Nat.reduceSub, Nat.reduceMul, Nat.reduceLeDiff, Int.reduceLE, Int.toNat_natCast, Int.natCast_nonneg, List.getElem?_map, List.length_map, Nat.zero_add, eq_self, Bool.not_true, Bool.not_false, hG2, Cod.cs, e63, e64]
    refine andK_split (by decide) ?_
    simp -dsimp (maxDischargeDepth := 9) only [go_sem, Nat.reduceBEq, Nat.reduceLT, Nat.reduceAdd, Nat.reduceSub, Nat.reduceMul, Nat.reduceLeDiff, Int.reduceLE, Int.toNat_natCast, Int.natCast_nonneg, List.getElem?_map, List.length_map, Nat.zero_add, eq_self, Bool.not_true, Bool.not_false, e64]
    refine andK_split (by omega) ?_
    simp -dsimp (maxDischargeDepth := 9) only [go_sem, Nat.reduceBEq, Nat.reduceLT, Nat.reduceAdd, Nat.reduceSub, Nat.reduceMul, Nat.reduceLeDiff, Int.reduceLE, Int.toNat_natCast, Int.natCast_nonneg, List.getElem?_map, List.length_map, Nat.zero_add, eq_self, Bool.not_true, Bool.not_false]
    refine newV_intro (fun b v hb hnb hmb hv => ?_)
    have hbb : eqn bo b = false := hnb bo (by rw [hS.out]; rfl)
    have hlen : k < ((bs.map fun p => D.raw p.2) ++ List.replicate (c.body.length - k) (D.slice [])).length := by simp; omega
    obtain ⟨m, hm⟩ : ∃ m, c.body.length - k = m + 1 := ⟨c.body.length - k - 1, by omega⟩
    have hget : ((bs.map fun p => D.raw p.2) ++ List.replicate (c.body.length - k) (D.slice []))[k]? = some (.slice []) := by
      rw [List.getElem?_append_right (by simp [hbl]), List.length_map, hbl, Nat.sub_self, hm]; rfl
    simp -dsimp (maxDischargeDepth := 9) only [go_sem, Nat.reduceBEq, Nat.reduceLT, Nat.reduceAdd, Nat.reduceSub, Nat.reduceMul, Nat.reduceLeDiff, Int.reduceLE, Int.toNat_natCast, Int.natCast_nonneg, List.getElem?_map, List.length_map, Nat.zero_add, eq_self, Bool.not_true, Bool.not_false, hS.out, hbb, hlen]
    refine putE_raw ?_
    simp -dsimp (maxDischargeDepth := 9) only [go_sem, Nat.reduceBEq, Nat.reduceLT, Nat.reduceAdd, Nat.reduceSub, Nat.reduceMul, Nat.reduceLeDiff, Int.reduceLE, Int.toNat_natCast, Int.natCast_nonneg, List.getElem?_map, List.length_map, Nat.zero_add, eq_self, Bool.not_true, Bool.not_false, hS.out, hbb, hlen, hget, hw1]
    rw [hm, List.replicate_succ] at hS
    have hp := hS.push (ws := List.replicate W 0) hb hv
    rw [hbl, ← List.replicate_succ, ← hm, ← words_zero, ← List.replicate_succ'] at hp
    refine roundQ_next (k + 1, bs ++ [(b, v)]) _ ⟨by simp only; omega, ?_⟩ (by simp only; omega) (by simp -dsimp (maxDischargeDepth := 9) only [go_sem, Nat.reduceBEq, Nat.reduceLT, Nat.reduceAdd, Nat.reduceSub, Nat.reduceMul, Nat.reduceLeDiff, Int.reduceLE, Int.toNat_natCast, Int.natCast_nonneg, List.getElem?_map, List.length_map, Nat.zero_add, eq_self, Bool.not_true, Bool.not_false]) (.refl _)
    have : c.body.length - (k + 1) = m := by omega
    rw [this]
    exact hp
  · have hk' : k = c.body.length := by simp at h1; omega
    clear hG2
    rw [hk', Nat.sub_self] at hS
    have hbl' : bs.length = c.body.length := by omega
    simp -dsimp (maxDischargeDepth := 9) only [go_sem, Nat.reduceBEq, Nat.reduceLT, Nat.reduceAdd, Nat.reduceSub, Nat.reduceMul, Nat.reduceLeDiff, Int.reduceLE, Int.toNat_natCast, Int.natCast_nonneg, List.getElem?_map, List.length_map, Nat.zero_add, eq_self, Bool.not_true, Bool.not_false]
    have hbit0 : ∀ p r, bitAt (List.replicate c.body.length (List.replicate W 0)) p r = false := by
      intro p r
      simp only [bitAt, List.getElem?_replicate]
      split
      · exact hasW_zero W r
      · simp [hasW]
    have hz : SInv c gs W (List.replicate c.body.length (List.replicate W 0)) (List.replicate c.body.length (List.replicate W 0)) false :=
      ⟨by simp, (fun ws hw => by
        rw [List.mem_replicate] at hw; obtain ⟨_, rfl⟩ := hw
        refine ⟨by simp, ?_⟩
        intro x hx; rw [List.mem_replicate] at hx; obtain ⟨_, rfl⟩ := hx; decide), (fun p r h => by rw [hbit0] at h; cases h), fun _ => rfl, (fun h => by cases h)⟩
    refine svc_loop (X := List (List Nat) × Bool) (fun x => [(1, .d (intss gs)), (2, .ref b2 0), (5, .d (bools rch)), (6, .own bo vo), (8, .d (.bool x.2))])
      (fun x G => SInv c gs W x.1 x.1 false ∧ (x.2 = false → ∀ p, ReachAt c.body p → ClosedAt c gs x.1 p) ∧ SetsAt (upd H b2 (.var (c.cs.map .d))) bo vo bs x.1 G)
      (fun x => 2 * unset x.1 + (if x.2 = true then 1 else 0)) (List.replicate c.body.length (List.replicate W 0), true) _ ⟨hz, fun h => (by cases h), hS⟩ (by simp -dsimp (maxDischargeDepth := 9) only [go_sem, Nat.reduceBEq, Nat.reduceLT, Nat.reduceAdd, Nat.reduceSub, Nat.reduceMul, Nat.reduceLeDiff, Int.reduceLE, Int.toNat_natCast, Int.natCast_nonneg, List.getElem?_map, List.length_map, Nat.zero_add, eq_self, Bool.not_true, Bool.not_false]) (.refl _) ?_
    clear hS hz hbit0 base
    rintro ⟨w0, ch⟩ G ⟨hI0, hcl0, hS⟩
    simp only at hI0 hcl0 hS
    simp -dsimp (maxDischargeDepth := 9) only [go_sem, Nat.reduceBEq, Nat.reduceLT, Nat.reduceAdd, Nat.reduceSub, Nat.reduceMul, Nat.reduceLeDiff, Int.reduceLE, Int.toNat_natCast, Int.natCast_nonneg, List.getElem?_map, List.length_map, Nat.zero_add, eq_self, Bool.not_true, Bool.not_false]
    cases ch with
    | false =>
      simp -dsimp (maxDischargeDepth := 9) only [go_sem, Nat.reduceBEq, Nat.reduceLT, Nat.reduceAdd, Nat.reduceSub, Nat.reduceMul, Nat.reduceLeDiff, Int.reduceLE, Int.toNat_natCast, Int.natCast_nonneg, List.getElem?_map, List.length_map, Nat.zero_add, eq_self, Bool.not_true, Bool.not_false]
      refine retW_is (hK bo vo bs w0 G (hS.down hb2) hI0.len hI0.ok fun p r => ⟨hI0.sound p r, fun h => closed_live (hcl0 rfl) h⟩)
    | true =>
      have hG2 : G b2 = some (.var (c.cs.map .d)) := hS.le _ _ (upd_same ..)
      have hwn : IntKind.i64.wrap ((c.body.length : Int) - 1) = (c.body.length : Int) - 1 := wrap64 (by omega) (by omega)
      simp -dsimp (maxDischargeDepth := 9) only [go_sem, Nat.reduceBEq, Nat.reduceLT, Nat.reduceAdd, Nat.reduceSub, Nat.reduceMul, Nat.reduceLeDiff, Int.reduceLE, Int.toNat_natCast, Int.natCast_nonneg, List.getElem?_map, List.length_map, Nat.zero_add, eq_self, Bool.not_true, Bool.not_false, hG2, Cod.cs, hwn]
      refine svc_loop (X := Int × List (List Nat) × Bool) (fun x => [(1, .d (intss gs)), (2, .ref b2 0), (5, .d (bools rch)), (6, .own bo vo), (8, .d (.bool x.2.2)), (9, .d (.int .i64 x.1))])
        (fun x G => -1 ≤ x.1 ∧ x.1 < c.body.length ∧ SInv c gs W w0 x.2.1 x.2.2 ∧ (x.2.2 = false → ∀ p : Nat, x.1 < p → ReachAt c.body p → ClosedAt c gs w0 p) ∧ SetsAt (upd H b2 (.var (c.cs.map .d))) bo vo bs x.2.1 G)
        (fun x => (x.1 + 1).toNat) ((c.body.length : Int) - 1, w0, false) _ ⟨by omega, by simp only; omega, hI0, ?_, hS⟩ (by simp -dsimp (maxDischargeDepth := 9) only [go_sem, Nat.reduceBEq, Nat.reduceLT, Nat.reduceAdd, Nat.reduceSub, Nat.reduceMul, Nat.reduceLeDiff, Int.reduceLE, Int.toNat_natCast, Int.natCast_nonneg, List.getElem?_map, List.length_map, Nat.zero_add, eq_self, Bool.not_true, Bool.not_false]) (.refl _) ?_
      · intro _ p hp hr
        exfalso
        simp only at hp
        have : p < c.body.length := by
          cases hr with
          | zero h => exact h
          | step _ _ _ _ hl => exact hl
        omega
      clear hS hG2
      rintro ⟨at_, wss, ch⟩ G ⟨ha1, ha2, hI, hcl, hS⟩
      simp only at ha1 ha2 hI hcl hS
      have hG2 : G b2 = some (.var (c.cs.map .d)) := hS.le _ _ (upd_same ..)
      simp -dsimp (maxDischargeDepth := 9) only [go_sem, Nat.reduceBEq, Nat.reduceLT, Nat.reduceAdd, Nat.reduceSub, Nat.reduceMul, Nat.reduceLeDiff, Int.reduceLE, Int.toNat_natCast, Int.natCast_nonneg, List.getElem?_map, List.length_map, Nat.zero_add, eq_self, Bool.not_true, Bool.not_false]
      refine gif_split (fun h2 => ?_) (fun h2 => ?_)
      · have h2' : 0 ≤ at_ := by simpa using h2
        obtain ⟨p, rfl⟩ : ∃ p : Nat, at_ = p := ⟨at_.toNat, by omega⟩
        have hpl : p < c.body.length := by omega
        obtain ⟨x, hx⟩ : ∃ x, rch[p]? = some x := ⟨rch[p]'(by omega), by simp [hrl, hpl]⟩
        have hwp : IntKind.i64.wrap ((p : Int) - 1) = (p : Int) - 1 := wrap64 (by omega) (by omega)
        have hxl : p < rch.length := by omega
        simp -dsimp (maxDischargeDepth := 9) only [go_sem, Nat.reduceBEq, Nat.reduceLT, Nat.reduceAdd, Nat.reduceSub, Nat.reduceMul, Nat.reduceLeDiff, Int.reduceLE, Int.toNat_natCast, Int.natCast_nonneg, List.getElem?_map, List.length_map, Nat.zero_add, eq_self, Bool.not_true, Bool.not_false, bools, hx, hxl]
        cases x with
        | false =>
          simp -dsimp (maxDischargeDepth := 9) only [go_sem, Nat.reduceBEq, Nat.reduceLT, Nat.reduceAdd, Nat.reduceSub, Nat.reduceMul, Nat.reduceLeDiff, Int.reduceLE, Int.toNat_natCast, Int.natCast_nonneg, List.getElem?_map, List.length_map, Nat.zero_add, eq_self, Bool.not_true, Bool.not_false, hwp]
          refine roundQ_next ((p : Int) - 1, wss, ch) G ⟨by simp only; omega, by simp only; omega, hI, ?_, hS⟩ (by simp only; omega) (by simp -dsimp (maxDischargeDepth := 9) only [go_sem, Nat.reduceBEq, Nat.reduceLT, Nat.reduceAdd, Nat.reduceSub, Nat.reduceMul, Nat.reduceLeDiff, Int.reduceLE, Int.toNat_natCast, Int.natCast_nonneg, List.getElem?_map, List.length_map, Nat.zero_add, eq_self, Bool.not_true, Bool.not_false, bools]) (.refl _)
          intro hch q hq hr
          simp only at hq
          by_cases e : q = p
          · subst e
            rw [(hrch q).2 hr] at hx; cases hx
          · exact hcl hch q (by omega) hr
        | true =>
          have hreach := (hrch p).1 hx
          obtain ⟨i, hi⟩ : ∃ i, c.body[p]? = some i := ⟨c.body[p], by simp [hpl]⟩
          have hki := hkn p i hi
          have hiok := hc.body i (List.mem_of_getElem? hi)
          simp -dsimp (maxDischargeDepth := 9) only [go_sem, Nat.reduceBEq, Nat.reduceLT, Nat.reduceAdd, Nat.reduceSub, Nat.reduceMul, Nat.reduceLeDiff, Int.reduceLE, Int.toNat_natCast, Int.natCast_nonneg, List.getElem?_map, List.length_map, Nat.zero_add, eq_self, Bool.not_true, Bool.not_false, hG2, Cod.cs, hi, hpl, Ins.d, Ins.cs]
          refine newK_intro (fun b10 hb10 hn10 hm10 => ?_)
          have h210 : eqn b2 b10 = false := hn10 b2 (by rw [hG2]; rfl)
          have hb10' : upd H b2 (.var (c.cs.map .d)) b10 = none := LeH.free hS.le hb10
          have hS10 := hS.both (o := .var (i.cs.map .d)) hb10
          have hG10 : upd G b10 (.var (i.cs.map .d)) b10 = some (.var (i.cs.map .d)) := upd_same ..
          simp -dsimp (maxDischargeDepth := 9) only [go_sem, Nat.reduceBEq, Nat.reduceLT, Nat.reduceAdd, Nat.reduceSub, Nat.reduceMul, Nat.reduceLeDiff, Int.reduceLE, Int.toNat_natCast, Int.natCast_nonneg, List.getElem?_map, List.length_map, Nat.zero_add, eq_self, Bool.not_true, Bool.not_false, upd_upd]
          have hcs : [A.d (.int .i64 i.op), .d (.int .i64 i.a), .d (.int .i64 i.b), .d (.int .i64 i.c), .d (.int .i64 i.n), .d (.int .i64 i.l), .d (ints i.list), .d (ints i.outs), .d (ints i.live)] = i.cs.map A.d := rfl
          rw [hcs]
          generalize upd G b10 (.var (i.cs.map .d)) = G1 at hS10 hG10 ⊢
          clear hS hG2 hb10 hn10 hm10
          have hgr : inRange c.body.length (goesI p i) := goes_range hki
          have hgl2 := goesI_length p i
          refine lgoes_ok _ (p : Int) (by omega) (by omega) i _ ?_
          simp -dsimp (maxDischargeDepth := 9) only [go_sem, Nat.reduceBEq, Nat.reduceLT, Nat.reduceAdd, Nat.reduceSub, Nat.reduceMul, Nat.reduceLeDiff, Int.reduceLE, Int.toNat_natCast, Int.natCast_nonneg, List.getElem?_map, List.length_map, Nat.zero_add, eq_self, Bool.not_true, Bool.not_false]
          refine svc_loop (X := Nat × List (List Nat) × Bool) (fun x => [(1, .d (intss gs)), (2, .ref b2 0), (5, .d (bools rch)), (6, .own bo vo), (8, .d (.bool x.2.2)), (9, .d (.int .i64 p)), (10, .ref b10 0), (60, .d (ints (goesI p i))), (61, .d (.int .i64 (goesI p i).length)), (62, .d (.int .i64 x.1))])
            (fun x G => x.1 ≤ (goesI p i).length ∧ SInv c gs W w0 x.2.1 x.2.2 ∧ (x.2.2 = false → ch = false ∧ ∀ (j t r : Nat), j < x.1 → (goesI p i)[j]? = some (t : Int) → bitAt w0 t r = true → (r : Int) ∉ butK i j → bitAt w0 p r = true) ∧
              SetsAt (upd (upd H b2 (.var (c.cs.map .d))) b10 (.var (i.cs.map .d))) bo vo bs x.2.1 G)
            (fun x => (goesI p i).length - x.1) (0, wss, ch) _ ⟨Nat.zero_le _, hI, fun h => ⟨h, fun j t r h => absurd h (Nat.not_lt_zero _)⟩, hS10⟩ (by simp -dsimp (maxDischargeDepth := 9) only [go_sem, Nat.reduceBEq, Nat.reduceLT, Nat.reduceAdd, Nat.reduceSub, Nat.reduceMul, Nat.reduceLeDiff, Int.reduceLE, Int.toNat_natCast, Int.natCast_nonneg, List.getElem?_map, List.length_map, Nat.zero_add, eq_self, Bool.not_true, Bool.not_false, bools, Int.natCast_zero]) (.refl _) ?_
          clear hS10 hG10 hI
          rintro ⟨k, wss', ch'⟩ G ⟨hk, hI, hcl', hS⟩
          simp only at hk hI hcl' hS
          have hG10 : G b10 = some (.var (i.cs.map .d)) := hS.le _ _ (upd_same ..)
          simp -dsimp (maxDischargeDepth := 9) only [go_sem, Nat.reduceBEq, Nat.reduceLT, Nat.reduceAdd, Nat.reduceSub, Nat.reduceMul, Nat.reduceLeDiff, Int.reduceLE, Int.toNat_natCast, Int.natCast_nonneg, List.getElem?_map, List.length_map, Nat.zero_add, eq_self, Bool.not_true, Bool.not_false]
          refine gif_split (fun h3 => ?_) (fun h3 => ?_)
          · have hk' : k < (goesI p i).length := by simpa using h3
            obtain ⟨t, ht⟩ : ∃ t, (goesI p i)[k]? = some t := ⟨(goesI p i)[k], by simp [hk']⟩
            obtain ⟨ht0, htl⟩ := hgr t (List.mem_of_getElem? ht)
            obtain ⟨t, rfl⟩ : ∃ m : Nat, t = m := ⟨t.toNat, by omega⟩
            rw [Int.toNat_natCast] at htl
            have hwk := wrapS (k := k) (by omega)
            obtain ⟨ws, hws⟩ : ∃ x, wss'[p]? = some x := ⟨wss'[p]'(by rw [hI.len]; exact hpl), by simp [hI.len, hpl]⟩
            obtain ⟨us, hus⟩ : ∃ x, wss'[t]? = some x := ⟨wss'[t]'(by rw [hI.len]; exact htl), by simp [hI.len, htl]⟩
            obtain ⟨⟨bp, vp⟩, hbp⟩ : ∃ x, bs[p]? = some x := ⟨bs[p]'(by omega), by simp [hbl', hpl]⟩
            obtain ⟨⟨bt, vt⟩, hbt⟩ : ∃ x, bs[t]? = some x := ⟨bs[t]'(by omega), by simp [hbl', htl]⟩
            obtain ⟨op1, op2, op3, op4⟩ := hS.own p _ _ hbp hws
            obtain ⟨ot1, ot2, ot3, ot4⟩ := hS.own t _ _ hbt hus
            simp only at op1 op2 op3 op4 ot1 ot2 ot3 ot4
            obtain ⟨wl, wo⟩ := hI.ok ws (List.mem_of_getElem? hws)
            obtain ⟨ul, uo⟩ := hI.ok us (List.mem_of_getElem? hus)
            have hbk := known_butK hki k
            have hadd := hI.add (but := butK i k) hws hus (fun r hr => (hbk r hr).1) (fun r hl hr => .goes p i k t _ r hreach hi ht (butK_but ht) hl hr)
            have hset := hS.set hbp hws (addW ws us (butK i k))
            have hbkl : (butK i k).length < 1099511627776 := by
              have := writesI_length i hiok
              unfold butK; split
              · split <;> simp
              · exact this
            have hout : G bo = some (.arr 62 1 vo (bs.map fun p => .raw p.2)) := by rw [hS.out, List.append_nil]
            have hpb : p < bs.length := by omega
            have htb : t < bs.length := by omega
            simp -dsimp (maxDischargeDepth := 9) only [go_sem, Nat.reduceBEq, Nat.reduceLT, Nat.reduceAdd, Nat.reduceSub, Nat.reduceMul, Nat.reduceLeDiff, Int.reduceLE, Int.toNat_natCast, Int.natCast_nonneg, List.getElem?_map, List.length_map, Nat.zero_add, eq_self, Bool.not_true, Bool.not_false, ht, hG10, Ins.cs]
            refine lwrites_ok _ i hiok _ ?_
            simp -dsimp (maxDischargeDepth := 9) only [go_sem, Nat.reduceBEq, Nat.reduceLT, Nat.reduceAdd, Nat.reduceSub, Nat.reduceMul, Nat.reduceLeDiff, Int.reduceLE, Int.toNat_natCast, Int.natCast_nonneg, List.getElem?_map, List.length_map, Nat.zero_add, eq_self, Bool.not_true, Bool.not_false]
            have fin : ∀ b, (ch' || !decide (addW ws us (butK i k) = ws)) = b → k + 1 ≤ (goesI p i).length ∧ SInv c gs W w0 (wss'.set p (addW ws us (butK i k))) b ∧ (b = false → ch = false ∧ ∀ (j t r : Nat), j < k + 1 → (goesI p i)[j]? = some (t : Int) → bitAt w0 t r = true → (r : Int) ∉ butK i j → bitAt w0 p r = true) ∧
                SetsAt (upd (upd H b2 (.var (c.cs.map .d))) b10 (.var (i.cs.map .d))) bo vo bs (wss'.set p (addW ws us (butK i k))) (upd G bp (.arr 89 1 vp (wordsD (addW ws us (butK i k))))) := by
              rintro b hb
              rw [hb] at hadd
              refine ⟨by omega, hadd.1, ?_, hset⟩
              rintro rfl
              have hch' : ch' = false := by rw [Bool.or_eq_false_iff] at hb; exact hb.1
              refine ⟨(hcl' hch').1, ?_⟩
              intro j t' r hj ht' h1 h2
              rcases Nat.lt_succ_iff_lt_or_eq.1 hj with hj' | rfl
              · exact (hcl' hch').2 j t' r hj' ht' h1 h2
              · rw [ht] at ht'; simp only [Option.some.injEq] at ht'
                obtain rfl : t = t' := by omega
                exact hadd.2 rfl r h1 h2
            refine gif_split (fun h4 => ?_) (fun h4 => ?_)
            · have hk1 : k = 1 := by simp at h4; omega
              simp -dsimp (maxDischargeDepth := 9) only [go_sem, Nat.reduceBEq, Nat.reduceLT, Nat.reduceAdd, Nat.reduceSub, Nat.reduceMul, Nat.reduceLeDiff, Int.reduceLE, Int.toNat_natCast, Int.natCast_nonneg, List.getElem?_map, List.length_map, Nat.zero_add, eq_self, Bool.not_true, Bool.not_false, h4, hG10, Ins.cs]
              refine gif_split (fun h5 => ?_) (fun h5 => ?_)
              · have e : D.slice [D.int .i64 i.a] = ints (butK i k) := by
                  have : i.op = 16 := by simpa using h5
                  rw [butK, if_pos hk1, if_pos this]; rfl
                simp -dsimp (maxDischargeDepth := 9) only [go_sem, Nat.reduceBEq, Nat.reduceLT, Nat.reduceAdd, Nat.reduceSub, Nat.reduceMul, Nat.reduceLeDiff, Int.reduceLE, Int.toNat_natCast, Int.natCast_nonneg, List.getElem?_map, List.length_map, Nat.zero_add, eq_self, Bool.not_true, Bool.not_false, h4, h5, hG10, Ins.cs]
                refine newV_intro (fun bn vn hbn hnn hmn hvn => ?_)
                have q1 : eqn bo bn = false := hnn bo (by rw [hout]; rfl)
                simp -dsimp (maxDischargeDepth := 9) only [go_sem, Nat.reduceBEq, Nat.reduceLT, Nat.reduceAdd, Nat.reduceSub, Nat.reduceMul, Nat.reduceLeDiff, Int.reduceLE, Int.toNat_natCast, Int.natCast_nonneg, List.getElem?_map, List.length_map, Nat.zero_add, eq_self, Bool.not_true, Bool.not_false, q1, hout, hbp, hbt, hpb, htb, unraw_own op1, unraw_own ot1]
                refine ACall.frz [false, false, true] ?_
                simp -dsimp (maxDischargeDepth := 9) only [go_sem, Nat.reduceBEq, Nat.reduceLT, Nat.reduceAdd, Nat.reduceSub, Nat.reduceMul, Nat.reduceLeDiff, Int.reduceLE, Int.toNat_natCast, Int.natCast_nonneg, List.getElem?_map, List.length_map, Nat.zero_add, eq_self, Bool.not_true, Bool.not_false]
                refine ACall.le (G := G) ?_ (leH_upd hbn (leH_upd hbn (.refl _)))
                rw [e]
                refine add_ok G bp bt vp vt ws us (butK i k) op4 ot4 wo uo (by omega) (by omega) hbkl (fun r hr => ⟨(hbk r hr).1, by have := (hbk r hr).2; omega⟩) _ ?_
                simp -dsimp (maxDischargeDepth := 9) only [go_sem, Nat.reduceBEq, Nat.reduceLT, Nat.reduceAdd, Nat.reduceSub, Nat.reduceMul, Nat.reduceLeDiff, Int.reduceLE, Int.toNat_natCast, Int.natCast_nonneg, List.getElem?_map, List.length_map, Nat.zero_add, eq_self, Bool.not_true, Bool.not_false]
                refine gif_split (fun h6 => ?_) (fun h6 => ?_)
                · simp -dsimp (maxDischargeDepth := 9) only [go_sem, Nat.reduceBEq, Nat.reduceLT, Nat.reduceAdd, Nat.reduceSub, Nat.reduceMul, Nat.reduceLeDiff, Int.reduceLE, Int.toNat_natCast, Int.natCast_nonneg, List.getElem?_map, List.length_map, Nat.zero_add, eq_self, Bool.not_true, Bool.not_false, hwk]
                  exact roundQ_next (k + 1, wss'.set p (addW ws us (butK i k)), true) _ (fin true (by rw [h6, Bool.or_true])) (by simp only; omega) (by simp -dsimp (maxDischargeDepth := 9) only [go_sem, Nat.reduceBEq, Nat.reduceLT, Nat.reduceAdd, Nat.reduceSub, Nat.reduceMul, Nat.reduceLeDiff, Int.reduceLE, Int.toNat_natCast, Int.natCast_nonneg, List.getElem?_map, List.length_map, Nat.zero_add, eq_self, Bool.not_true, Bool.not_false, bools]) (.refl _)
                · simp -dsimp (maxDischargeDepth := 9) only [go_sem, Nat.reduceBEq, Nat.reduceLT, Nat.reduceAdd, Nat.reduceSub, Nat.reduceMul, Nat.reduceLeDiff, Int.reduceLE, Int.toNat_natCast, Int.natCast_nonneg, List.getElem?_map, List.length_map, Nat.zero_add, eq_self, Bool.not_true, Bool.not_false, hwk]
                  exact roundQ_next (k + 1, wss'.set p (addW ws us (butK i k)), ch') _ (fin ch' (by rw [h6, Bool.or_false])) (by simp only; omega) (by simp -dsimp (maxDischargeDepth := 9) only [go_sem, Nat.reduceBEq, Nat.reduceLT, Nat.reduceAdd, Nat.reduceSub, Nat.reduceMul, Nat.reduceLeDiff, Int.reduceLE, Int.toNat_natCast, Int.natCast_nonneg, List.getElem?_map, List.length_map, Nat.zero_add, eq_self, Bool.not_true, Bool.not_false, bools]) (.refl _)
              · have e : D.slice [] = ints (butK i k) := by
                  have : ¬ i.op = 16 := by simpa using h5
                  rw [butK, if_pos hk1, if_neg this]; rfl
                simp -dsimp (maxDischargeDepth := 9) only [go_sem, Nat.reduceBEq, Nat.reduceLT, Nat.reduceAdd, Nat.reduceSub, Nat.reduceMul, Nat.reduceLeDiff, Int.reduceLE, Int.toNat_natCast, Int.natCast_nonneg, List.getElem?_map, List.length_map, Nat.zero_add, eq_self, Bool.not_true, Bool.not_false, h4, h5, hG10, Ins.cs, hout, hbp, hbt, hpb, htb, unraw_own op1, unraw_own ot1]
                refine ACall.frz [false, false, true] ?_
                simp -dsimp (maxDischargeDepth := 9) only [go_sem, Nat.reduceBEq, Nat.reduceLT, Nat.reduceAdd, Nat.reduceSub, Nat.reduceMul, Nat.reduceLeDiff, Int.reduceLE, Int.toNat_natCast, Int.natCast_nonneg, List.getElem?_map, List.length_map, Nat.zero_add, eq_self, Bool.not_true, Bool.not_false]
                rw [e]
                refine add_ok G bp bt vp vt ws us (butK i k) op4 ot4 wo uo (by omega) (by omega) hbkl (fun r hr => ⟨(hbk r hr).1, by have := (hbk r hr).2; omega⟩) _ ?_
                simp -dsimp (maxDischargeDepth := 9) only [go_sem, Nat.reduceBEq, Nat.reduceLT, Nat.reduceAdd, Nat.reduceSub, Nat.reduceMul, Nat.reduceLeDiff, Int.reduceLE, Int.toNat_natCast, Int.natCast_nonneg, List.getElem?_map, List.length_map, Nat.zero_add, eq_self, Bool.not_true, Bool.not_false]
                refine gif_split (fun h6 => ?_) (fun h6 => ?_)
                · simp -dsimp (maxDischargeDepth := 9) only [go_sem, Nat.reduceBEq, Nat.reduceLT, Nat.reduceAdd, Nat.reduceSub, Nat.reduceMul, Nat.reduceLeDiff, Int.reduceLE, Int.toNat_natCast, Int.natCast_nonneg, List.getElem?_map, List.length_map, Nat.zero_add, eq_self, Bool.not_true, Bool.not_false, hwk]
                  exact roundQ_next (k + 1, wss'.set p (addW ws us (butK i k)), true) _ (fin true (by rw [h6, Bool.or_true])) (by simp only; omega) (by simp -dsimp (maxDischargeDepth := 9) only [go_sem, Nat.reduceBEq, Nat.reduceLT, Nat.reduceAdd, Nat.reduceSub, Nat.reduceMul, Nat.reduceLeDiff, Int.reduceLE, Int.toNat_natCast, Int.natCast_nonneg, List.getElem?_map, List.length_map, Nat.zero_add, eq_self, Bool.not_true, Bool.not_false, bools]) (.refl _)
                · simp -dsimp (maxDischargeDepth := 9) only [go_sem, Nat.reduceBEq, Nat.reduceLT, Nat.reduceAdd, Nat.reduceSub, Nat.reduceMul, Nat.reduceLeDiff, Int.reduceLE, Int.toNat_natCast, Int.natCast_nonneg, List.getElem?_map, List.length_map, Nat.zero_add, eq_self, Bool.not_true, Bool.not_false, hwk]
                  exact roundQ_next (k + 1, wss'.set p (addW ws us (butK i k)), ch') _ (fin ch' (by rw [h6, Bool.or_false])) (by simp only; omega) (by simp -dsimp (maxDischargeDepth := 9) only [go_sem, Nat.reduceBEq, Nat.reduceLT, Nat.reduceAdd, Nat.reduceSub, Nat.reduceMul, Nat.reduceLeDiff, Int.reduceLE, Int.toNat_natCast, Int.natCast_nonneg, List.getElem?_map, List.length_map, Nat.zero_add, eq_self, Bool.not_true, Bool.not_false, bools]) (.refl _)
            · have e : ints (writesI i) = ints (butK i k) := by
                have : ¬ k = 1 := by simp at h4; omega
                rw [butK, if_neg this]
              simp -dsimp (maxDischargeDepth := 9) only [go_sem, Nat.reduceBEq, Nat.reduceLT, Nat.reduceAdd, Nat.reduceSub, Nat.reduceMul, Nat.reduceLeDiff, Int.reduceLE, Int.toNat_natCast, Int.natCast_nonneg, List.getElem?_map, List.length_map, Nat.zero_add, eq_self, Bool.not_true, Bool.not_false, h4, hout, hbp, hbt, hpb, htb, unraw_own op1, unraw_own ot1]
              rw [e]
              refine add_ok G bp bt vp vt ws us (butK i k) op4 ot4 wo uo (by omega) (by omega) hbkl (fun r hr => ⟨(hbk r hr).1, by have := (hbk r hr).2; omega⟩) _ ?_
              simp -dsimp (maxDischargeDepth := 9) only [go_sem, Nat.reduceBEq, Nat.reduceLT, Nat.reduceAdd, Nat.reduceSub, Nat.reduceMul, Nat.reduceLeDiff, Int.reduceLE, Int.toNat_natCast, Int.natCast_nonneg, List.getElem?_map, List.length_map, Nat.zero_add, eq_self, Bool.not_true, Bool.not_false]
              refine gif_split (fun h6 => ?_) (fun h6 => ?_)
              · simp -dsimp (maxDischargeDepth := 9) only [go_sem, Nat.reduceBEq, Nat.reduceLT, Nat.reduceAdd, Nat.reduceSub, Nat.reduceMul, Nat.reduceLeDiff, Int.reduceLE, Int.toNat_natCast, Int.natCast_nonneg, List.getElem?_map, List.length_map, Nat.zero_add, eq_self, Bool.not_true, Bool.not_false, hwk]
                exact roundQ_next (k + 1, wss'.set p (addW ws us (butK i k)), true) _ (fin true (by rw [h6, Bool.or_true])) (by simp only; omega) (by simp -dsimp (maxDischargeDepth := 9) only [go_sem, Nat.reduceBEq, Nat.reduceLT, Nat.reduceAdd, Nat.reduceSub, Nat.reduceMul, Nat.reduceLeDiff, Int.reduceLE, Int.toNat_natCast, Int.natCast_nonneg, List.getElem?_map, List.length_map, Nat.zero_add, eq_self, Bool.not_true, Bool.not_false, bools]) (.refl _)
              · simp -dsimp (maxDischargeDepth := 9) only [go_sem, Nat.reduceBEq, Nat.reduceLT, Nat.reduceAdd, Nat.reduceSub, Nat.reduceMul, Nat.reduceLeDiff, Int.reduceLE, Int.toNat_natCast, Int.natCast_nonneg, List.getElem?_map, List.length_map, Nat.zero_add, eq_self, Bool.not_true, Bool.not_false, hwk]
                exact roundQ_next (k + 1, wss'.set p (addW ws us (butK i k)), ch') _ (fin ch' (by rw [h6, Bool.or_false])) (by simp only; omega) (by simp -dsimp (maxDischargeDepth := 9) only [go_sem, Nat.reduceBEq, Nat.reduceLT, Nat.reduceAdd, Nat.reduceSub, Nat.reduceMul, Nat.reduceLeDiff, Int.reduceLE, Int.toNat_natCast, Int.natCast_nonneg, List.getElem?_map, List.length_map, Nat.zero_add, eq_self, Bool.not_true, Bool.not_false, bools]) (.refl _)
          · have hk' : k = (goesI p i).length := by simp at h3; omega
            subst hk'
            obtain ⟨g, hg⟩ : ∃ x, gs[p]? = some x := ⟨gs[p]'(by rw [hgl]; exact hpl), by simp [hgl, hpl]⟩
            obtain ⟨hgtr, hgln⟩ := hgt g (List.mem_of_getElem? hg)
            have hpg : p < gs.length := by omega
            have hG2 : G b2 = some (.var (c.cs.map .d)) := hS.le _ _ (by rw [upd_ne _ _ (of_decide_eq_false h210)]; exact upd_same ..)
            simp -dsimp (maxDischargeDepth := 9) only [go_sem, Nat.reduceBEq, Nat.reduceLT, Nat.reduceAdd, Nat.reduceSub, Nat.reduceMul, Nat.reduceLeDiff, Int.reduceLE, Int.toNat_natCast, Int.natCast_nonneg, List.getElem?_map, List.length_map, Nat.zero_add, eq_self, Bool.not_true, Bool.not_false, intss, hg, hpg, hG10, Ins.cs]
            refine raises_ok _ _ _ ?_
            simp -dsimp (maxDischargeDepth := 9) only [go_sem, Nat.reduceBEq, Nat.reduceLT, Nat.reduceAdd, Nat.reduceSub, Nat.reduceMul, Nat.reduceLeDiff, Int.reduceLE, Int.toNat_natCast, Int.natCast_nonneg, List.getElem?_map, List.length_map, Nat.zero_add, eq_self, Bool.not_true, Bool.not_false]
            refine (fun (key : ∀ wss2 ch2 x8 G2, x8 = A.d (.bool ch2) → SInv c gs W w0 wss2 ch2 → (ch2 = false → ch' = false ∧ ∀ (a : Nat) (tr : Ins) (t r : Nat), raisesI i.op = true → g.getLast? = some (a : Int) → c.body[a]? = some tr → tr.l = t → bitAt w0 t r = true → (r : Int) ≠ tr.a → bitAt w0 p r = true) →
                SetsAt (upd (upd H b2 (.var (c.cs.map .d))) b10 (.var (i.cs.map .d))) bo vo bs wss2 G2 → (?T : A → Heap → Prop) x8 G2) => ?main) ?rest
            case main =>
              refine gif_split (fun h4 => ?_) (fun h4 => ?_)
              · simp -dsimp (maxDischargeDepth := 9) only [go_sem, Nat.reduceBEq, Nat.reduceLT, Nat.reduceAdd, Nat.reduceSub, Nat.reduceMul, Nat.reduceLeDiff, Int.reduceLE, Int.toNat_natCast, Int.natCast_nonneg, List.getElem?_map, List.length_map, Nat.zero_add, eq_self, Bool.not_true, Bool.not_false, h4]
                refine gif_split (fun h5 => ?_) (fun h5 => ?_)
                · have hgne : g ≠ [] := by intro e; simp [e] at h5
                  have hgpos : 0 < g.length := List.length_pos_iff.2 hgne
                  obtain ⟨a, hlast⟩ : ∃ x, g[g.length - 1]? = some x := ⟨g[g.length - 1], by simp⟩
                  obtain ⟨ha0, tr, htr, h16⟩ := hgtr a (List.mem_of_getElem? hlast)
                  obtain ⟨a, rfl⟩ : ∃ m : Nat, a = m := ⟨a.toNat, by omega⟩
                  rw [Int.toNat_natCast] at htr
                  have hktr := hkn a tr htr
                  have hgor := goes_range hktr tr.l (by simp [goesI, h16])
                  obtain ⟨t, hlt⟩ : ∃ m : Nat, tr.l = m := ⟨tr.l.toNat, by omega⟩
                  have htl : t < c.body.length := by omega
                  have htra := known_try hktr h16
                  have hwg : IntKind.i64.wrap ((g.length : Int) - 1) = ((g.length - 1 : Nat) : Int) := by rw [wrap64 (by omega) (by omega)]; omega
                  have hgl1 : g.length - 1 < g.length := by omega
                  have hal : a < c.body.length := (List.getElem?_eq_some_iff.1 htr).1
                  obtain ⟨ws, hws⟩ : ∃ x, wss'[p]? = some x := ⟨wss'[p]'(by rw [hI.len]; exact hpl), by simp [hI.len, hpl]⟩
                  obtain ⟨us, hus⟩ : ∃ x, wss'[t]? = some x := ⟨wss'[t]'(by rw [hI.len]; exact htl), by simp [hI.len, htl]⟩
                  obtain ⟨⟨bp, vp⟩, hbp⟩ : ∃ x, bs[p]? = some x := ⟨bs[p]'(by omega), by simp [hbl', hpl]⟩
                  obtain ⟨⟨bt, vt⟩, hbt⟩ : ∃ x, bs[t]? = some x := ⟨bs[t]'(by omega), by simp [hbl', htl]⟩
                  obtain ⟨op1, op2, op3, op4⟩ := hS.own p _ _ hbp hws
                  obtain ⟨ot1, ot2, ot3, ot4⟩ := hS.own t _ _ hbt hus
                  simp only at op1 op2 op3 op4 ot1 ot2 ot3 ot4
                  obtain ⟨wl, wo⟩ := hI.ok ws (List.mem_of_getElem? hws)
                  obtain ⟨ul, uo⟩ := hI.ok us (List.mem_of_getElem? hus)
                  have hgla : g.getLast? = some (a : Int) := by rw [List.getLast?_eq_getElem?]; exact hlast
                  have hadd := hI.add (but := [tr.a]) hws hus (fun r hr => by simp at hr; subst hr; exact htra.1) (fun r hl hr => .guard p i g a tr t r hreach hi h4 hg hgla htr hlt hl (by simpa using hr))
                  have hset := hS.set hbp hws (addW ws us [tr.a])
                  have hout : G bo = some (.arr 62 1 vo (bs.map fun p => .raw p.2)) := by rw [hS.out, List.append_nil]
                  have hpb : p < bs.length := by omega
                  have htb : t < bs.length := by omega
                  simp -dsimp (maxDischargeDepth := 9) only [go_sem, Nat.reduceBEq, Nat.reduceLT, Nat.reduceAdd, Nat.reduceSub, Nat.reduceMul, Nat.reduceLeDiff, Int.reduceLE, Int.toNat_natCast, Int.natCast_nonneg, List.getElem?_map, List.length_map, Nat.zero_add, eq_self, Bool.not_true, Bool.not_false, h5, hG2, Cod.cs, hwg, hlast, htr, hgl1, hal, Ins.d, Ins.cs]
                  refine newK_intro (fun b15 hb15 hn15 hm15 => ?_)
                  have q15 : eqn bo b15 = false := hn15 bo (by rw [hout]; rfl)
                  have q215 : eqn b2 b15 = false := hn15 b2 (by rw [hG2]; rfl)
                  simp -dsimp (maxDischargeDepth := 9) only [go_sem, Nat.reduceBEq, Nat.reduceLT, Nat.reduceAdd, Nat.reduceSub, Nat.reduceMul, Nat.reduceLeDiff, Int.reduceLE, Int.toNat_natCast, Int.natCast_nonneg, List.getElem?_map, List.length_map, Nat.zero_add, eq_self, Bool.not_true, Bool.not_false, upd_upd, q15, q215, hG2, Cod.cs, hwg, hlast, htr, hgl1, hal, Ins.d, Ins.cs, hout, hbp, hpb, unraw_own op1, hlt, hbt, htb, unraw_own ot1]
                  refine newV_intro (fun bn vn hbn hnn hmn hvn => ?_)
                  have hbnG : G bn = none := (upd_eq_none.1 hbn).2
                  have qn : eqn bo bn = false := hnn bo (by simp -dsimp (maxDischargeDepth := 9) only [go_sem, Nat.reduceBEq, Nat.reduceLT, Nat.reduceAdd, Nat.reduceSub, Nat.reduceMul, Nat.reduceLeDiff, Int.reduceLE, Int.toNat_natCast, Int.natCast_nonneg, List.getElem?_map, List.length_map, Nat.zero_add, eq_self, Bool.not_true, Bool.not_false, q15, hout])
                  have qn15 : eqn b15 bn = false := hnn b15 (by simp -dsimp (maxDischargeDepth := 9) only [go_sem, Nat.reduceBEq, Nat.reduceLT, Nat.reduceAdd, Nat.reduceSub, Nat.reduceMul, Nat.reduceLeDiff, Int.reduceLE, Int.toNat_natCast, Int.natCast_nonneg, List.getElem?_map, List.length_map, Nat.zero_add, eq_self, Bool.not_true, Bool.not_false])
                  simp -dsimp (maxDischargeDepth := 9) only [go_sem, Nat.reduceBEq, Nat.reduceLT, Nat.reduceAdd, Nat.reduceSub, Nat.reduceMul, Nat.reduceLeDiff, Int.reduceLE, Int.toNat_natCast, Int.natCast_nonneg, List.getElem?_map, List.length_map, Nat.zero_add, eq_self, Bool.not_true, Bool.not_false, qn, qn15, q15, hout, hbp, hpb, unraw_own op1, hbt, htb, unraw_own ot1]
                  refine ACall.frz [false, false, true] ?_
                  simp -dsimp (maxDischargeDepth := 9) only [go_sem, Nat.reduceBEq, Nat.reduceLT, Nat.reduceAdd, Nat.reduceSub, Nat.reduceMul, Nat.reduceLeDiff, Int.reduceLE, Int.toNat_natCast, Int.natCast_nonneg, List.getElem?_map, List.length_map, Nat.zero_add, eq_self, Bool.not_true, Bool.not_false]
                  refine ACall.le (G := G) ?_ (leH_upd hbnG (leH_upd hbnG (LeH.up (.refl _) hb15)))
                  have e : D.slice [D.int .i64 tr.a] = ints [tr.a] := rfl
                  rw [e]
                  refine add_ok G bp bt vp vt ws us [tr.a] op4 ot4 wo uo (by omega) (by omega) (by simp) (fun r hr => by simp at hr; subst hr; exact ⟨htra.1, by omega⟩) _ ?_
                  have hcl2 : (ch' || !decide (addW ws us [tr.a] = ws)) = false → ch' = false ∧ ∀ (a : Nat) (tr : Ins) (t r : Nat), raisesI i.op = true → g.getLast? = some (a : Int) → c.body[a]? = some tr → tr.l = t → bitAt w0 t r = true → (r : Int) ≠ tr.a → bitAt w0 p r = true := by
                    intro hb
                    refine ⟨by rw [Bool.or_eq_false_iff] at hb; exact hb.1, ?_⟩
                    intro a' tr' t' r _ h1 h2 h3 h4 h5
                    rw [hgla] at h1
                    simp only [Option.some.injEq] at h1
                    obtain rfl : a = a' := by omega
                    rw [htr] at h2; cases h2
                    obtain rfl : t = t' := by omega
                    exact hadd.2 hb r h4 (by simpa using h5)
                  generalize upd G bp (.arr 89 1 vp (wordsD (addW ws us [tr.a]))) = G2 at hset ⊢
                  have hG22 : G2 b2 = some (.var (c.cs.map .d)) := hset.le _ _ (by rw [upd_ne _ _ (of_decide_eq_false h210)]; exact upd_same ..)
                  have hG210 : G2 b10 = some (.var (i.cs.map .d)) := hset.le _ _ (upd_same ..)
                  simp -dsimp (maxDischargeDepth := 9) only [go_sem, Nat.reduceBEq, Nat.reduceLT, Nat.reduceAdd, Nat.reduceSub, Nat.reduceMul, Nat.reduceLeDiff, Int.reduceLE, Int.toNat_natCast, Int.natCast_nonneg, List.getElem?_map, List.length_map, Nat.zero_add, eq_self, Bool.not_true, Bool.not_false]
                  refine gif_split (fun h6 => ?_) (fun h6 => ?_)
                  · rw [h6, Bool.or_true] at hadd hcl2
                    simp -dsimp (maxDischargeDepth := 9) only [go_sem, Nat.reduceBEq, Nat.reduceLT, Nat.reduceAdd, Nat.reduceSub, Nat.reduceMul, Nat.reduceLeDiff, Int.reduceLE, Int.toNat_natCast, Int.natCast_nonneg, List.getElem?_map, List.length_map, Nat.zero_add, eq_self, Bool.not_true, Bool.not_false, hG22, hG210, Cod.cs, Ins.cs]
                    generalize hx8 : A.d (D.bool true) = x8
                    exact key _ true x8 G2 hx8.symm hadd.1 hcl2 hset
                  · rw [h6, Bool.or_false] at hadd hcl2
                    simp -dsimp (maxDischargeDepth := 9) only [go_sem, Nat.reduceBEq, Nat.reduceLT, Nat.reduceAdd, Nat.reduceSub, Nat.reduceMul, Nat.reduceLeDiff, Int.reduceLE, Int.toNat_natCast, Int.natCast_nonneg, List.getElem?_map, List.length_map, Nat.zero_add, eq_self, Bool.not_true, Bool.not_false, hG22, hG210, Cod.cs, Ins.cs]
                    generalize hx8 : A.d (D.bool ch') = x8
                    exact key _ ch' x8 G2 hx8.symm hadd.1 hcl2 hset
                · simp -dsimp (maxDischargeDepth := 9) only [go_sem, Nat.reduceBEq, Nat.reduceLT, Nat.reduceAdd, Nat.reduceSub, Nat.reduceMul, Nat.reduceLeDiff, Int.reduceLE, Int.toNat_natCast, Int.natCast_nonneg, List.getElem?_map, List.length_map, Nat.zero_add, eq_self, Bool.not_true, Bool.not_false, h5, hG2, hG10, Cod.cs, Ins.cs]
                  generalize hx8 : A.d (D.bool ch') = x8
                  refine key _ ch' x8 G hx8.symm hI (fun h => ⟨h, fun a tr t r _ h1 => ?_⟩) hS
                  have : g = [] := by cases g with
                    | nil => rfl
                    | cons x l => simp at h5
                  subst this; simp at h1
              · simp -dsimp (maxDischargeDepth := 9) only [go_sem, Nat.reduceBEq, Nat.reduceLT, Nat.reduceAdd, Nat.reduceSub, Nat.reduceMul, Nat.reduceLeDiff, Int.reduceLE, Int.toNat_natCast, Int.natCast_nonneg, List.getElem?_map, List.length_map, Nat.zero_add, eq_self, Bool.not_true, Bool.not_false, h4, hG2, hG10, Cod.cs, Ins.cs]
                generalize hx8 : A.d (D.bool ch') = x8
                refine key _ ch' x8 G hx8.symm hI (fun h => ⟨h, fun a tr t r h0 => ?_⟩) hS
                rw [h4] at h0; cases h0
            case rest =>
              clear hS hI hG2 hG10
              rintro wss2 ch2 x8 G2 rfl hI hcl2 hS
              have hS := hS.down hb10'
              refine lreads_ok _ c i hiok hc.ins _ ?_
              simp -dsimp (maxDischargeDepth := 9) only [go_sem, Nat.reduceBEq, Nat.reduceLT, Nat.reduceAdd, Nat.reduceSub, Nat.reduceMul, Nat.reduceLeDiff, Int.reduceLE, Int.toNat_natCast, Int.natCast_nonneg, List.getElem?_map, List.length_map, Nat.zero_add, eq_self, Bool.not_true, Bool.not_false]
              refine svc_loop (X := Nat × List (List Nat) × Bool) (fun x => [(1, .d (intss gs)), (2, .ref b2 0), (5, .d (bools rch)), (6, .own bo vo), (8, .d (.bool x.2.2)), (9, .d (.int .i64 p)), (129, .d (ints (readsI c i))), (130, .d (.int .i64 (readsI c i).length)), (131, .d (.int .i64 x.1))])
                (fun x G => x.1 ≤ (readsI c i).length ∧ SInv c gs W w0 x.2.1 x.2.2 ∧ (x.2.2 = false → ch2 = false ∧ ∀ (j r : Nat), j < x.1 → (readsI c i)[j]? = some (r : Int) → bitAt w0 p r = true) ∧
                  SetsAt (upd H b2 (.var (c.cs.map .d))) bo vo bs x.2.1 G)
                (fun x => (readsI c i).length - x.1) (0, wss2, ch2) _ ⟨Nat.zero_le _, hI, fun h => ⟨h, fun j r h => absurd h (Nat.not_lt_zero _)⟩, hS⟩ (by simp -dsimp (maxDischargeDepth := 9) only [go_sem, Nat.reduceBEq, Nat.reduceLT, Nat.reduceAdd, Nat.reduceSub, Nat.reduceMul, Nat.reduceLeDiff, Int.reduceLE, Int.toNat_natCast, Int.natCast_nonneg, List.getElem?_map, List.length_map, Nat.zero_add, eq_self, Bool.not_true, Bool.not_false, bools, intss, Int.natCast_zero]) (.refl _) ?_
              clear hS hI
              rintro ⟨k, wss3, ch3⟩ G ⟨hk, hI, hcl3, hS⟩
              simp only at hk hI hcl3 hS
              have hrl := readsI_length (c := c) hiok hc.ins
              simp -dsimp (maxDischargeDepth := 9) only [go_sem, Nat.reduceBEq, Nat.reduceLT, Nat.reduceAdd, Nat.reduceSub, Nat.reduceMul, Nat.reduceLeDiff, Int.reduceLE, Int.toNat_natCast, Int.natCast_nonneg, List.getElem?_map, List.length_map, Nat.zero_add, eq_self, Bool.not_true, Bool.not_false]
              refine gif_split (fun h6 => ?_) (fun h6 => ?_)
              · have hk' : k < (readsI c i).length := by simpa using h6
                obtain ⟨r, hr⟩ : ∃ t, (readsI c i)[k]? = some t := ⟨(readsI c i)[k], by simp [hk']⟩
                obtain ⟨hr0, hrl⟩ := known_reads hki r (List.mem_of_getElem? hr)
                obtain ⟨r, rfl⟩ : ∃ m : Nat, r = m := ⟨r.toNat, by omega⟩
                rw [Int.toNat_natCast] at hrl
                have hwk := wrapS (k := k) (by omega)
                obtain ⟨ws, hws⟩ : ∃ x, wss3[p]? = some x := ⟨wss3[p]'(by rw [hI.len]; exact hpl), by simp [hI.len, hpl]⟩
                obtain ⟨⟨bp, vp⟩, hbp⟩ : ∃ x, bs[p]? = some x := ⟨bs[p]'(by omega), by simp [hbl', hpl]⟩
                obtain ⟨op1, op2, op3, op4⟩ := hS.own p _ _ hbp hws
                simp only at op1 op2 op3 op4
                obtain ⟨wl, wo⟩ := hI.ok ws (List.mem_of_getElem? hws)
                have hout : G bo = some (.arr 62 1 vo (bs.map fun p => .raw p.2)) := by rw [hS.out, List.append_nil]
                have hpb : p < bs.length := by omega
                simp -dsimp (maxDischargeDepth := 9) only [go_sem, Nat.reduceBEq, Nat.reduceLT, Nat.reduceAdd, Nat.reduceSub, Nat.reduceMul, Nat.reduceLeDiff, Int.reduceLE, Int.toNat_natCast, Int.natCast_nonneg, List.getElem?_map, List.length_map, Nat.zero_add, eq_self, Bool.not_true, Bool.not_false, hr, hout, hbp, hpb, unraw_own op1]
                refine has_ok G bp vp ws op4 wo r (by omega) (by omega) _ ?_
                simp -dsimp (maxDischargeDepth := 9) only [go_sem, Nat.reduceBEq, Nat.reduceLT, Nat.reduceAdd, Nat.reduceSub, Nat.reduceMul, Nat.reduceLeDiff, Int.reduceLE, Int.toNat_natCast, Int.natCast_nonneg, List.getElem?_map, List.length_map, Nat.zero_add, eq_self, Bool.not_true, Bool.not_false]
                refine gif_split (fun h7 => ?_) (fun h7 => ?_)
                · have h7' : hasW ws r = false := by simpa using h7
                  simp -dsimp (maxDischargeDepth := 9) only [go_sem, Nat.reduceBEq, Nat.reduceLT, Nat.reduceAdd, Nat.reduceSub, Nat.reduceMul, Nat.reduceLeDiff, Int.reduceLE, Int.toNat_natCast, Int.natCast_nonneg, List.getElem?_map, List.length_map, Nat.zero_add, eq_self, Bool.not_true, Bool.not_false, hout, hbp, hpb, unraw_own op1]
                  refine put_ok G bp vp ws op4 wo r (by omega) (by omega) _ ?_
                  simp -dsimp (maxDischargeDepth := 9) only [go_sem, Nat.reduceBEq, Nat.reduceLT, Nat.reduceAdd, Nat.reduceSub, Nat.reduceMul, Nat.reduceLeDiff, Int.reduceLE, Int.toNat_natCast, Int.natCast_nonneg, List.getElem?_map, List.length_map, Nat.zero_add, eq_self, Bool.not_true, Bool.not_false, hwk]
                  exact roundQ_next (k + 1, wss3.set p (putW ws r), true) _ ⟨by simp only; omega, hI.put hws (by omega) h7' (.reads p i r hreach hi (List.mem_of_getElem? hr)), fun h => (by cases h), hS.set hbp hws _⟩ (by simp only; omega) (by simp -dsimp (maxDischargeDepth := 9) only [go_sem, Nat.reduceBEq, Nat.reduceLT, Nat.reduceAdd, Nat.reduceSub, Nat.reduceMul, Nat.reduceLeDiff, Int.reduceLE, Int.toNat_natCast, Int.natCast_nonneg, List.getElem?_map, List.length_map, Nat.zero_add, eq_self, Bool.not_true, Bool.not_false, bools, intss]) (.refl _)
                · simp -dsimp (maxDischargeDepth := 9) only [go_sem, Nat.reduceBEq, Nat.reduceLT, Nat.reduceAdd, Nat.reduceSub, Nat.reduceMul, Nat.reduceLeDiff, Int.reduceLE, Int.toNat_natCast, Int.natCast_nonneg, List.getElem?_map, List.length_map, Nat.zero_add, eq_self, Bool.not_true, Bool.not_false, hwk]
                  have h7' : hasW ws r = true := by simpa using h7
                  refine roundQ_next (k + 1, wss3, ch3) _ ⟨by simp only; omega, hI, fun h => ⟨(hcl3 h).1, ?_⟩, hS⟩ (by simp only; omega) (by simp -dsimp (maxDischargeDepth := 9) only [go_sem, Nat.reduceBEq, Nat.reduceLT, Nat.reduceAdd, Nat.reduceSub, Nat.reduceMul, Nat.reduceLeDiff, Int.reduceLE, Int.toNat_natCast, Int.natCast_nonneg, List.getElem?_map, List.length_map, Nat.zero_add, eq_self, Bool.not_true, Bool.not_false, bools, intss]) (.refl _)
                  intro j r' hj hr'
                  rcases Nat.lt_succ_iff_lt_or_eq.1 hj with hj' | rfl
                  · exact (hcl3 h).2 j r' hj' hr'
                  · rw [hr] at hr'; simp only [Option.some.injEq] at hr'
                    obtain rfl : r = r' := by omega
                    rw [← hI.keep h, bitAt_get hws]; exact h7'
              · have hk' : k = (readsI c i).length := by simp at h6; omega
                subst hk'
                simp -dsimp (maxDischargeDepth := 9) only [go_sem, Nat.reduceBEq, Nat.reduceLT, Nat.reduceAdd, Nat.reduceSub, Nat.reduceMul, Nat.reduceLeDiff, Int.reduceLE, Int.toNat_natCast, Int.natCast_nonneg, List.getElem?_map, List.length_map, Nat.zero_add, eq_self, Bool.not_true, Bool.not_false, hwp]
                refine roundQ_next ((p : Int) - 1, wss3, ch3) G ⟨by simp only; omega, by simp only; omega, hI, ?_, hS⟩ (by simp only; omega) (by simp -dsimp (maxDischargeDepth := 9) only [go_sem, Nat.reduceBEq, Nat.reduceLT, Nat.reduceAdd, Nat.reduceSub, Nat.reduceMul, Nat.reduceLeDiff, Int.reduceLE, Int.toNat_natCast, Int.natCast_nonneg, List.getElem?_map, List.length_map, Nat.zero_add, eq_self, Bool.not_true, Bool.not_false, bools, intss]) (.refl _)
                intro h3 q hq hr
                simp only at hq h3
                obtain ⟨h2, hreads⟩ := hcl3 h3
                obtain ⟨h1, hguard⟩ := hcl2 h2
                obtain ⟨h0, hgoes⟩ := hcl' h1
                by_cases e : q = p
                · subst e
                  refine ⟨?_, ?_, ?_⟩
                  · intro i' r hi' hr'
                    rw [hi] at hi'; cases hi'
                    obtain ⟨j, hj⟩ := List.getElem?_of_mem hr'
                    exact hreads j r (List.getElem?_eq_some_iff.1 hj).1 hj
                  · intro i' j t but r hi' ht hb hbit hnb
                    rw [hi] at hi'; cases hi'
                    rw [butK_but ht] at hb; cases hb
                    exact hgoes j t r (List.getElem?_eq_some_iff.1 ht).1 ht hbit hnb
                  · intro i' g' a tr t r hi' hra hg' hla htr hlt hbit hne
                    rw [hi] at hi'; cases hi'
                    rw [hg] at hg'; cases hg'
                    exact hguard a tr t r hra hla htr hlt hbit hne
                · exact hcl h0 q (by omega) hr
      · simp -dsimp (maxDischargeDepth := 9) only [go_sem, Nat.reduceBEq, Nat.reduceLT, Nat.reduceAdd, Nat.reduceSub, Nat.reduceMul, Nat.reduceLeDiff, Int.reduceLE, Int.toNat_natCast, Int.natCast_nonneg, List.getElem?_map, List.length_map, Nat.zero_add, eq_self, Bool.not_true, Bool.not_false]
        have : at_ = -1 := by simp at h2; omega
        subst this
        refine roundQ_next (wss, ch) G ⟨?_, ?_, hS⟩ ?_ (by simp -dsimp (maxDischargeDepth := 9) only [go_sem, Nat.reduceBEq, Nat.reduceLT, Nat.reduceAdd, Nat.reduceSub, Nat.reduceMul, Nat.reduceLeDiff, Int.reduceLE, Int.toNat_natCast, Int.natCast_nonneg, List.getElem?_map, List.length_map, Nat.zero_add, eq_self, Bool.not_true, Bool.not_false]) (.refl _)
        · exact ⟨hI.len, hI.ok, hI.sound, fun _ => rfl, fun x => (by cases x)⟩
        · intro h p hr
          simp only at h
          rw [hI.keep h]
          exact hcl h p (by omega) hr
        · cases ch with
          | false => simp only [hI.keep rfl]; simp
          | true => have := hI.less rfl; simp only; omega

end Go.Aug

/- live.Live. -/
namespace Go.Aug
open Go.Proofs
set_option maxRecDepth 100000
set_option linter.unusedSimpArgs false
attribute [local irreducible] hid andK letA onSome onVar onArr arrOnly onInt onBool onFunc onTup idxA ldV ldD addO ofPart appTo fillL slA srcK nilQ retW gif sgd sguard svc sops sdops sagain aopO aLoad aStore aBin aUn aConv aLen aIndexAddr aIndex aSlice aAppend aBuild aBuildSlice aMakeSlice aField aFieldOf aCallOp deepK deepL frzM putE newK newV growV ACall roundQ thenQ inBlockQ sret cnd szs nilC

theorem flowIn_inv {body : List Ins} {i : Ins} {a : Int} {here : List Int} (h0 : 0 ≤ a) (hi : body[a.toNat]? = some i) (hh : tries body here) : ∀ (ts : List Int) (k : Nat) (s s' : FS), inRange body.length ts → FInv body s → here.length + falses s.seen ≤ body.length →
    flowIn i a here k ts s = some s' → FInv body s'
  | [], k, s, s', _, hs, _, h => by simp [flowIn] at h; subst h; exact hs
  | t :: ts, k, s, s', hr, hs, hl, h => by
    obtain ⟨ht0, htl⟩ := hr t (by simp)
    have hr' : inRange body.length ts := fun x hx => hr x (by simp [hx])
    rw [flowIn] at h
    split at h
    · split at h
      · exact flowIn_inv h0 hi hh ts _ _ _ hr' hs hl h
      · cases h
    · rename_i hn
      obtain ⟨x, hx⟩ : ∃ x, s.seen[t.toNat]? = some x := ⟨s.seen[t.toNat]'(by rw [hs.ls]; exact htl), by simp [hs.ls, htl]⟩
      have hx' : s.seen[t.toNat]? = some false := by
        cases x with
        | true => exact absurd hx hn
        | false => exact hx
      have hf := falses_set hx'
      have hthl := thenI_length i a k here
      refine flowIn_inv h0 hi hh ts _ _ _ hr' (hs.mark ht0 htl hx' (by omega) (thenI_tries k h0 hi hh)) (by simp only; omega) h

theorem FRun.good {body : List Ins} (hg : ∀ (p : Nat) i, body[p]? = some i → inRange body.length (goesI p i)) {s : FS} {r : Option (List (List Int))} (h : FRun body s r) : FInv body s → ∀ g, r = some g → g.length = body.length ∧ ∀ x ∈ g, tries body x ∧ x.length ≤ body.length := by
  induction h with
  | done s h => intro hs g e; cases e; exact ⟨hs.lg, fun x hx => ⟨hs.tr x hx, by have := hs.len x hx; omega⟩⟩
  | stop => intro _ g e; cases e
  | clash => intro _ g e; cases e
  | step s s' st a i here r hst hi hh hns hf hr ih =>
    intro hs
    obtain ⟨ha0, hal⟩ := hs.st a (by rw [hst]; simp)
    have hg' := hg a.toNat i hi
    rw [Int.toNat_of_nonneg ha0] at hg'
    exact ih (flowIn_inv ha0 hi (hs.tr here (List.mem_of_getElem? hh)) _ _ _ _ hg' (hs.pop hst) (hs.len here (List.mem_of_getElem? hh)) hf)

theorem flowBad_known {c : Cod} (h : ¬ flowBad c) : ∀ k i, c.body[k]? = some i → knownI c k i = true := by
  intro k i hi
  cases e : knownI c k i with
  | true => rfl
  | false => exact absurd (.inr (.inr (.inr ⟨k, i, hi, e⟩))) h
theorem flowBad_pos {c : Cod} (h : ¬ flowBad c) : 0 < c.body.length := by
  cases e : c.body with
  | nil => exact absurd (.inl e) h
  | cons x l => simp

theorem FlowIs.good {c : Cod} {gs : List (List Int)} (h : FlowIs c (some gs)) : ¬ flowBad c ∧ gs.length = c.body.length ∧ ∀ x ∈ gs, tries c.body x ∧ x.length ≤ c.body.length := by
  cases h with
  | run _ hb hr => exact ⟨hb, hr.good (fun p i hi => goes_range (flowBad_known hb p i hi)) (.start _ (flowBad_pos hb)) gs rfl⟩

theorem flowIn_fun (i : Ins) (a : Int) (here : List Int) (k : Nat) (ts : List Int) (s : FS) : ∀ x y, flowIn i a here k ts s = x → flowIn i a here k ts s = y → x = y := fun _ _ h1 h2 => h1.symm.trans h2
theorem FRun.det {body : List Ins} {s : FS} {r : Option (List (List Int))} (h : FRun body s r) : ∀ {r'}, FRun body s r' → r = r' := by
  induction h with
  | done s h =>
    intro r' h'
    cases h' with
    | done => rfl
    | stop _ st a i here h1 => rw [h] at h1; simp at h1
    | clash _ st a i here h1 => rw [h] at h1; simp at h1
    | step _ s' st a i here r h1 => rw [h] at h1; simp at h1
  | stop s st a i here h1 h2 h3 h4 =>
    intro r' h'
    cases h' with
    | done _ h => rw [h] at h1; simp at h1
    | stop => rfl
    | clash => rfl
    | step _ s' st' a' i' here' r h1' h2' h3' h4' =>
      rw [h1] at h1'
      obtain ⟨rfl, e⟩ := List.append_inj' h1' rfl
      simp at e; subst e
      rw [h2] at h2'; cases h2'
      rw [h3] at h3'; cases h3'
      exact absurd h4 h4'
  | clash s st a i here h1 h2 h3 h4 h5 =>
    intro r' h'
    cases h' with
    | done _ h => rw [h] at h1; simp at h1
    | stop => rfl
    | clash => rfl
    | step _ s' st' a' i' here' r h1' h2' h3' h4' h5' =>
      rw [h1] at h1'
      obtain ⟨rfl, e⟩ := List.append_inj' h1' rfl
      simp at e; subst e
      rw [h2] at h2'; cases h2'
      rw [h3] at h3'; cases h3'
      rw [h5] at h5'; cases h5'
  | step s s' st a i here r h1 h2 h3 h4 h5 _ ih =>
    intro r' h'
    cases h' with
    | done _ h => rw [h] at h1; simp at h1
    | stop _ st' a' i' here' h1' h2' h3' h4' =>
      rw [h1] at h1'
      obtain ⟨rfl, e⟩ := List.append_inj' h1' rfl
      simp at e; subst e
      rw [h2] at h2'; cases h2'
      rw [h3] at h3'; cases h3'
      exact absurd h4' h4
    | clash _ st' a' i' here' h1' h2' h3' h4' h5' =>
      rw [h1] at h1'
      obtain ⟨rfl, e⟩ := List.append_inj' h1' rfl
      simp at e; subst e
      rw [h2] at h2'; cases h2'
      rw [h3] at h3'; cases h3'
      rw [h5] at h5'; cases h5'
    | step _ s'' st' a' i' here' r h1' h2' h3' h4' h5' hr' =>
      rw [h1] at h1'
      obtain ⟨rfl, e⟩ := List.append_inj' h1' rfl
      simp at e; subst e
      rw [h2] at h2'; cases h2'
      rw [h3] at h3'; cases h3'
      rw [h5] at h5'; cases h5'
      exact ih hr'
theorem FlowIs.det {c : Cod} {r r' : Option (List (List Int))} (h : FlowIs c r) (h' : FlowIs c r') : r = r' := by
  cases h with
  | bad hb => cases h' with
    | bad => rfl
    | run _ hn => exact absurd hb hn
  | run _ hn hr => cases h' with
    | bad hb => exact absurd hb hn
    | run _ _ hr' => exact hr.det hr'

/-- The registers that are live, place by place, rising. -/
structure LiveIs (c : Cod) (gs : List (List Int)) (ls : List (List Int)) : Prop where
  len : ls.length = c.body.length
  mem : ∀ (p : Nat) (l : List Int), ls[p]? = some l → ∀ x : Int, x ∈ l ↔ ∃ r : Nat, x = r ∧ LiveAt c gs p r
  rise : ∀ l ∈ ls, l.Pairwise (· < ·)

theorem listTo_mem (ws : List Nat) : ∀ (n : Nat) (x : Int), x ∈ listTo ws n ↔ ∃ r : Nat, x = r ∧ r < n ∧ hasW ws r = true
  | 0, x => by simp [listTo]
  | n + 1, x => by
    have ih := listTo_mem ws n x
    simp only [listTo]
    split
    · rename_i e
      simp only [List.mem_append, List.mem_singleton, ih]
      constructor
      · rintro (⟨r, rfl, h1, h2⟩ | rfl)
        · exact ⟨r, rfl, by omega, h2⟩
        · exact ⟨n, rfl, by omega, e⟩
      · rintro ⟨r, rfl, h1, h2⟩
        by_cases er : r = n
        · subst er; exact .inr rfl
        · exact .inl ⟨r, rfl, by omega, h2⟩
    · rename_i e
      rw [ih]
      constructor
      · rintro ⟨r, rfl, h1, h2⟩; exact ⟨r, rfl, by omega, h2⟩
      · rintro ⟨r, rfl, h1, h2⟩
        by_cases er : r = n
        · subst er; exact absurd h2 e
        · exact ⟨r, rfl, by omega, h2⟩
theorem listTo_rise (ws : List Nat) : ∀ n : Nat, (listTo ws n).Pairwise (· < ·)
  | 0 => .nil
  | n + 1 => by
    simp only [listTo]
    split
    · rw [List.pairwise_append]
      refine ⟨listTo_rise ws n, by simp, ?_⟩
      intro a ha b hb
      simp at hb; subst hb
      obtain ⟨r, rfl, h, _⟩ := (listTo_mem ws n a).1 ha
      omega
    · exact listTo_rise ws n

theorem LiveIs.of {c : Cod} {gs : List (List Int)} {wss : List (List Nat)} (hl : wss.length = c.body.length) (hb : ∀ p r, bitAt wss p r = true ↔ LiveAt c gs p r) : LiveIs c gs (wss.map listW) := by
  refine ⟨by simp [hl], ?_, ?_⟩
  · intro p l h x
    rw [List.getElem?_map, Option.map_eq_some_iff] at h
    obtain ⟨ws, hws, rfl⟩ := h
    rw [listW, listTo_mem]
    constructor
    · rintro ⟨r, rfl, _, h2⟩; exact ⟨r, rfl, (hb p r).1 (by rw [bitAt_get hws]; exact h2)⟩
    · rintro ⟨r, rfl, h⟩
      have := (hb p r).2 h
      rw [bitAt_get hws] at this
      refine ⟨r, rfl, ?_, this⟩
      apply Classical.byContradiction
      intro hn
      rw [hasW_out (by omega)] at this; cases this
  · intro l h
    rw [List.mem_map] at h
    obtain ⟨ws, _, rfl⟩ := h
    exact listTo_rise ws _

theorem SetsP.base {G H : Heap} {bo : Nat} {vo : Value} {bs : List (Nat × Value)} {wss : List (List Nat)} {rest : List D} (h : SetsP G bo vo bs wss rest H) {b : Nat} {o o' : AObj} (hb : G b = some o) : SetsP (upd G b o') bo vo bs wss rest (upd H b o') := by
  have ne : ∀ {k : Nat}, G k = none → k ≠ b := by rintro k hk rfl; rw [hb] at hk; cases hk
  have hbo := ne h.go
  refine ⟨leH_both h.le, by rw [upd_ne _ _ hbo]; exact h.go, h.hv, by rw [upd_ne _ _ hbo]; exact h.out, h.len, ?_, h.inj⟩
  intro i p ws h1 h2
  obtain ⟨a, q, c, d⟩ := h.own i p ws h1 h2
  exact ⟨a, by rw [upd_ne _ _ (ne q)]; exact q, c, by rw [upd_ne _ _ (ne q)]; exact d⟩

/-- What live.Live hands back. -/
inductive LiveR (c : Cod) : List (List Int) → D → Prop
  | no (h : FlowIs c none) : LiveR c [] (.sent 0)
  | yes (gs ls : List (List Int)) (h : FlowIs c (some gs)) (hl : LiveIs c gs ls) : LiveR c ls (.raw .nilIface)

set_option maxHeartbeats 1000000 in
theorem live_ok {eb : Nat → Addr} (H : Heap) (c : Cod) (hc : CodOk c) (hrd : ∀ i ∈ c.body, (readsI c i).length < 1099511627776) (hr8 : c.regs.length < 1048576) (K : A → Heap → Prop)
    (hK : ∀ ls e, LiveR c ls e → K (.tup [.d (intss ls), .d e]) H) : ACall Tryd.prog (seatV eb) 8 [.d c.d] H K := by
  have hn := hc.n
  refine ACall.by mixed fn8 (by simp) ?_
  conv in s8 => cbv
  refine svc_start ?_
  simp -dsimp (maxDischargeDepth := 9) only [go_sem, Nat.reduceBEq, Nat.reduceLT, Nat.reduceAdd, Nat.reduceSub, Nat.reduceMul, Nat.reduceLeDiff, Int.reduceLE, Int.toNat_natCast, Int.natCast_nonneg, List.getElem?_map, List.length_map, Nat.zero_add, eq_self, Bool.not_true, Bool.not_false, Cod.d, Cod.cs]
  refine newK_intro (fun b1 hb1 hn1 hm1 => ?_)
  have hle1 : LeH H (upd H b1 (.var (c.cs.map .d))) := leH_upd hb1 (.refl _)
  simp -dsimp (maxDischargeDepth := 9) only [go_sem, Nat.reduceBEq, Nat.reduceLT, Nat.reduceAdd, Nat.reduceSub, Nat.reduceMul, Nat.reduceLeDiff, Int.reduceLE, Int.toNat_natCast, Int.natCast_nonneg, List.getElem?_map, List.length_map, Nat.zero_add, eq_self, Bool.not_true, Bool.not_false]
  refine flow_ok _ c hc hrd _ (fun r hr => ?_)
  simp -dsimp (maxDischargeDepth := 9) only [go_sem, Nat.reduceBEq, Nat.reduceLT, Nat.reduceAdd, Nat.reduceSub, Nat.reduceMul, Nat.reduceLeDiff, Int.reduceLE, Int.toNat_natCast, Int.natCast_nonneg, List.getElem?_map, List.length_map, Nat.zero_add, eq_self, Bool.not_true, Bool.not_false]
  cases r with
  | none =>
    simp -dsimp (maxDischargeDepth := 9) only [go_sem, Nat.reduceBEq, Nat.reduceLT, Nat.reduceAdd, Nat.reduceSub, Nat.reduceMul, Nat.reduceLeDiff, Int.reduceLE, Int.toNat_natCast, Int.natCast_nonneg, List.getElem?_map, List.length_map, Nat.zero_add, eq_self, Bool.not_true, Bool.not_false, Option.getD_none]
    refine retW_tup [true, true] ?_
    simp -dsimp (maxDischargeDepth := 9) only [go_sem, Nat.reduceBEq, Nat.reduceLT, Nat.reduceAdd, Nat.reduceSub, Nat.reduceMul, Nat.reduceLeDiff, Int.reduceLE, Int.toNat_natCast, Int.natCast_nonneg, List.getElem?_map, List.length_map, Nat.zero_add, eq_self, Bool.not_true, Bool.not_false]
    exact retW_drop hle1 (retW_is (hK [] _ (.no hr)))
  | some gs =>
    obtain ⟨hgood, hgl, hgt⟩ := hr.good
    have hpos := flowBad_pos hgood
    simp -dsimp (maxDischargeDepth := 9) only [go_sem, Nat.reduceBEq, Nat.reduceLT, Nat.reduceAdd, Nat.reduceSub, Nat.reduceMul, Nat.reduceLeDiff, Int.reduceLE, Int.toNat_natCast, Int.natCast_nonneg, List.getElem?_map, List.length_map, Nat.zero_add, eq_self, Bool.not_true, Bool.not_false, Option.getD_some]
    refine andK_split (by omega) ?_
    simp -dsimp (maxDischargeDepth := 9) only [go_sem, Nat.reduceBEq, Nat.reduceLT, Nat.reduceAdd, Nat.reduceSub, Nat.reduceMul, Nat.reduceLeDiff, Int.reduceLE, Int.toNat_natCast, Int.natCast_nonneg, List.getElem?_map, List.length_map, Nat.zero_add, eq_self, Bool.not_true, Bool.not_false]
    refine newV_intro (fun b6 v6 hb6 hn6 hm6 hv6 => ?_)
    have e16 : eqn b1 b6 = false := hn6 b1 (by simp -dsimp (maxDischargeDepth := 9) only [go_sem, Nat.reduceBEq, Nat.reduceLT, Nat.reduceAdd, Nat.reduceSub, Nat.reduceMul, Nat.reduceLeDiff, Int.reduceLE, Int.toNat_natCast, Int.natCast_nonneg, List.getElem?_map, List.length_map, Nat.zero_add, eq_self, Bool.not_true, Bool.not_false])
    simp -dsimp (maxDischargeDepth := 9) only [go_sem, Nat.reduceBEq, Nat.reduceLT, Nat.reduceAdd, Nat.reduceSub, Nat.reduceMul, Nat.reduceLeDiff, Int.reduceLE, Int.toNat_natCast, Int.natCast_nonneg, List.getElem?_map, List.length_map, Nat.zero_add, eq_self, Bool.not_true, Bool.not_false, e16]
    refine sets_ok _ c gs hc (flowBad_known hgood) hgl (fun x hx => ⟨(hgt x hx).1, by have := (hgt x hx).2; omega⟩) hpos _ (fun bo vo bs wss H' hS hwl hwok hbit => ?_)
    have hL := LiveIs.of hwl hbit
    have hbl : bs.length = c.body.length := by rw [hS.len, hwl]
    have hout : H' bo = some (.arr 62 1 vo (bs.map fun p => .raw p.2)) := by rw [hS.out, List.append_nil]
    simp -dsimp (maxDischargeDepth := 9) only [go_sem, Nat.reduceBEq, Nat.reduceLT, Nat.reduceAdd, Nat.reduceSub, Nat.reduceMul, Nat.reduceLeDiff, Int.reduceLE, Int.toNat_natCast, Int.natCast_nonneg, List.getElem?_map, List.length_map, Nat.zero_add, eq_self, Bool.not_true, Bool.not_false, hout]
    have hb6' : upd H b1 (.var (c.cs.map .d)) b6 = none := hb6
    have hS0 : SetsAt (upd (upd H b1 (.var (c.cs.map .d))) b6 (.arr 27 1 v6 (((wss.map listW).take 0).map ints ++ List.replicate (c.body.length - 0) (.slice [])))) bo vo bs wss H' := by
      simp only [List.take_zero, List.map_nil, List.nil_append, Nat.sub_zero]
      exact hS
    refine svc_loop (fun k : Nat => [(6, .own b6 v6), (23, .own bo vo), (24, .d (.int .i64 bs.length)), (25, .d (.int .i64 k))])
      (fun k G => k ≤ bs.length ∧ SetsAt (upd (upd H b1 (.var (c.cs.map .d))) b6 (.arr 27 1 v6 (((wss.map listW).take k).map ints ++ List.replicate (c.body.length - k) (.slice [])))) bo vo bs wss G) (fun k => bs.length - k) 0 _ ⟨Nat.zero_le _, hS0⟩ (by simp -dsimp (maxDischargeDepth := 9) only [go_sem, Nat.reduceBEq, Nat.reduceLT, Nat.reduceAdd, Nat.reduceSub, Nat.reduceMul, Nat.reduceLeDiff, Int.reduceLE, Int.toNat_natCast, Int.natCast_nonneg, List.getElem?_map, List.length_map, Nat.zero_add, eq_self, Bool.not_true, Bool.not_false, Int.natCast_zero]) (.refl _) ?_
    clear hout hS hS0
    rintro k G ⟨hk, hS⟩
    have hout : G bo = some (.arr 62 1 vo (bs.map fun p => .raw p.2)) := by rw [hS.out, List.append_nil]
    have hG6 := hS.le _ _ (upd_same ..)
    simp -dsimp (maxDischargeDepth := 9) only [go_sem, Nat.reduceBEq, Nat.reduceLT, Nat.reduceAdd, Nat.reduceSub, Nat.reduceMul, Nat.reduceLeDiff, Int.reduceLE, Int.toNat_natCast, Int.natCast_nonneg, List.getElem?_map, List.length_map, Nat.zero_add, eq_self, Bool.not_true, Bool.not_false]
    refine gif_split (fun h1 => ?_) (fun h1 => ?_)
    · have hk' : k < bs.length := by simpa using h1
      obtain ⟨⟨b, v⟩, hb⟩ : ∃ x, bs[k]? = some x := ⟨bs[k], by simp [hk']⟩
      obtain ⟨ws, hws⟩ : ∃ x, wss[k]? = some x := ⟨wss[k]'(by rw [← hS.len]; exact hk'), by simp [← hS.len, hk']⟩
      obtain ⟨o1, o2, o3, o4⟩ := hS.own k _ _ hb hws
      simp only at o1 o2 o3 o4
      obtain ⟨hwl1, hwo⟩ := hwok ws (List.mem_of_getElem? hws)
      have hw1 := wrapS (k := k) (by omega)
      have hlen : k < (((wss.map listW).take k).map ints ++ List.replicate (c.body.length - k) (D.slice [])).length := by simp; omega
      obtain ⟨m, hm⟩ : ∃ m, c.body.length - k = m + 1 := ⟨c.body.length - k - 1, by omega⟩
      have htl : (((wss.map listW).take k).map ints).length = k := by simp; omega
      have hget : (((wss.map listW).take k).map ints ++ List.replicate (c.body.length - k) (D.slice []))[k]? = some (.slice []) := by
        rw [List.getElem?_append_right (by omega), htl, Nat.sub_self, hm]; rfl
      simp -dsimp (maxDischargeDepth := 9) only [go_sem, Nat.reduceBEq, Nat.reduceLT, Nat.reduceAdd, Nat.reduceSub, Nat.reduceMul, Nat.reduceLeDiff, Int.reduceLE, Int.toNat_natCast, Int.natCast_nonneg, List.getElem?_map, List.length_map, Nat.zero_add, eq_self, Bool.not_true, Bool.not_false, hout, hb, hk', unraw_own o1]
      refine list_ok _ b v ws o4 hwo (by omega) _ ?_
      simp -dsimp (maxDischargeDepth := 9) only [go_sem, Nat.reduceBEq, Nat.reduceLT, Nat.reduceAdd, Nat.reduceSub, Nat.reduceMul, Nat.reduceLeDiff, Int.reduceLE, Int.toNat_natCast, Int.natCast_nonneg, List.getElem?_map, List.length_map, Nat.zero_add, eq_self, Bool.not_true, Bool.not_false, hG6, hlen, hget, hw1]
      refine roundQ_next (k + 1) _ ⟨by omega, ?_⟩ (by omega) (by simp -dsimp (maxDischargeDepth := 9) only [go_sem, Nat.reduceBEq, Nat.reduceLT, Nat.reduceAdd, Nat.reduceSub, Nat.reduceMul, Nat.reduceLeDiff, Int.reduceLE, Int.toNat_natCast, Int.natCast_nonneg, List.getElem?_map, List.length_map, Nat.zero_add, eq_self, Bool.not_true, Bool.not_false]) (.refl _)
      have hset : (((wss.map listW).take k).map ints ++ List.replicate (c.body.length - k) (D.slice [])).set k (ints (listW ws)) = ((wss.map listW).take (k + 1)).map ints ++ List.replicate (c.body.length - (k + 1)) (D.slice []) := by
        rw [List.set_append_right _ _ (by omega), htl, Nat.sub_self, hm, List.replicate_succ, List.set_cons_zero, List.take_add_one, List.getElem?_map, hws]
        have : c.body.length - (k + 1) = m := by omega
        simp [this]
      have := hS.base (b := b6) (o' := .arr 27 1 v6 (((wss.map listW).take (k + 1)).map ints ++ List.replicate (c.body.length - (k + 1)) (.slice []))) (upd_same ..)
      rw [upd_upd] at this
      rw [hset]
      exact this
    · have hk' : k = c.body.length := by simp at h1; omega
      subst hk'
      have htk : (wss.map listW).take c.body.length = wss.map listW := List.take_of_length_le (by simp; omega)
      rw [Nat.sub_self, List.replicate_zero, List.append_nil, htk] at hG6 hS
      simp -dsimp (maxDischargeDepth := 9) only [go_sem, Nat.reduceBEq, Nat.reduceLT, Nat.reduceAdd, Nat.reduceSub, Nat.reduceMul, Nat.reduceLeDiff, Int.reduceLE, Int.toNat_natCast, Int.natCast_nonneg, List.getElem?_map, List.length_map, Nat.zero_add, eq_self, Bool.not_true, Bool.not_false]
      refine retW_tup [true, true] ?_
      simp -dsimp (maxDischargeDepth := 9) only [go_sem, Nat.reduceBEq, Nat.reduceLT, Nat.reduceAdd, Nat.reduceSub, Nat.reduceMul, Nat.reduceLeDiff, Int.reduceLE, Int.toNat_natCast, Int.natCast_nonneg, List.getElem?_map, List.length_map, Nat.zero_add, eq_self, Bool.not_true, Bool.not_false, hG6]
      refine retW_drop (G := H) ?_ (retW_is (hK _ _ (.yes gs _ hr hL)))
      exact leH_upd (LeH.free hle1 hb6') ((LeH.up hle1 hb6').trans hS.le)

end Go.Aug

/- Which places are reached, by going on until nothing changes. -/
namespace Go.Aug
open Go.Proofs
set_option maxRecDepth 100000
set_option linter.unusedSimpArgs false
attribute [local irreducible] hid andK letA onSome onVar onArr arrOnly onInt onBool onFunc onTup idxA ldV ldD addO ofPart appTo fillL slA srcK nilQ retW gif sgd sguard svc sops sdops sagain aopO aLoad aStore aBin aUn aConv aLen aIndexAddr aIndex aSlice aAppend aBuild aBuildSlice aMakeSlice aField aFieldOf aCallOp deepK deepL frzM putE newK newV growV ACall roundQ thenQ inBlockQ sret cnd szs nilC

structure QInv (body : List Ins) (o0 out : List Bool) (ch : Bool) : Prop where
  len : out.length = body.length
  sound : ∀ p : Nat, out[p]? = some true → ReachAt body p
  first : 0 < body.length → out[0]? = some true
  keep : ch = false → out = o0
  less : ch = true → falses out < falses o0

def ClosedTo (body : List Ins) (o : List Bool) (k : Nat) (t : Int) : Prop := o[k]? = some true → 0 ≤ t → t.toNat < body.length → o[t.toNat]? = some true

theorem QInv.mark {body : List Ins} {o0 out : List Bool} {ch : Bool} (h : QInv body o0 out ch) {k m : Nat} {i : Ins} (hi : body[k]? = some i) (hk : out[k]? = some true) (ht : (m : Int) ∈ goesI k i) (hm : out[m]? = some false) : QInv body o0 (out.set m true) true := by
  have hml : m < out.length := (List.getElem?_eq_some_iff.1 hm).1
  have hf := falses_set hm
  have get : ∀ p, (out.set m true)[p]? = some true ↔ p = m ∨ out[p]? = some true := by
    intro p
    rw [List.getElem?_set]
    by_cases e : m = p
    · subst e; simp [hml]
    · rw [if_neg e]; constructor
      · exact .inr
      · rintro (rfl | h)
        · exact absurd rfl e
        · exact h
  refine ⟨by simp [h.len], ?_, fun hb => (get 0).2 (.inr (h.first hb)), fun x => (by cases x), fun _ => ?_⟩
  · intro p hp
    rcases (get p).1 hp with rfl | hp
    · have := ReachAt.step (t := (p : Int)) (h.sound k hk) hi ht (by omega) (by rw [Int.toNat_natCast, ← h.len]; exact hml)
      simpa using this
    · exact h.sound p hp
  · cases ch with
    | false => rw [h.keep rfl] at hf ⊢; omega
    | true => have := h.less rfl; omega

theorem QInv.done {body : List Ins} {o0 out : List Bool} {ch : Bool} (h : QInv body o0 out ch) (hc : ∀ (k : Nat) i t, body[k]? = some i → t ∈ goesI k i → ClosedTo body out k t) (p : Nat) : out[p]? = some true ↔ ReachAt body p := by
  refine ⟨h.sound p, fun hr => ?_⟩
  induction hr with
  | zero hb => exact h.first hb
  | step hr hi ht h0 hl ih => exact hc _ _ _ hi ht ih h0 hl

set_option maxHeartbeats 1000000 in
theorem reached_ok {eb : Nat → Addr} (H : Heap) (c : Cod) (hn : c.body.length < 1099511627776) (K : A → Heap → Prop)
    (hK : ∀ out : List Bool, out.length = c.body.length → (∀ p : Nat, out[p]? = some true ↔ ReachAt c.body p) → K (.d (bools out)) H) : ACall Tryd.prog (seatV eb) 9 [.d c.d] H K := by
  refine ACall.by mixed fn9 (by simp) ?_
  conv in s9 => cbv
  refine svc_start ?_
  simp -dsimp (maxDischargeDepth := 9) only [go_sem, Nat.reduceBEq, Nat.reduceLT, Nat.reduceAdd, Nat.reduceSub, Nat.reduceMul, Nat.reduceLeDiff, Int.reduceLE, Int.toNat_natCast, Int.natCast_nonneg, List.getElem?_map, List.length_map, Nat.zero_add, eq_self, Bool.not_true, Bool.not_false, Cod.d, Cod.cs]
  refine newK_intro (fun b1 hb1 hn1 hm1 => ?_)
  simp -dsimp (maxDischargeDepth := 9) only [go_sem, Nat.reduceBEq, Nat.reduceLT, Nat.reduceAdd, Nat.reduceSub, Nat.reduceMul, Nat.reduceLeDiff, Int.reduceLE, Int.toNat_natCast, Int.natCast_nonneg, List.getElem?_map, List.length_map, Nat.zero_add, eq_self, Bool.not_true, Bool.not_false]
  refine andK_split (by omega) ?_
  simp -dsimp (maxDischargeDepth := 9) only [go_sem, Nat.reduceBEq, Nat.reduceLT, Nat.reduceAdd, Nat.reduceSub, Nat.reduceMul, Nat.reduceLeDiff, Int.reduceLE, Int.toNat_natCast, Int.natCast_nonneg, List.getElem?_map, List.length_map, Nat.zero_add, eq_self, Bool.not_true, Bool.not_false]
  refine newV_intro (fun bo vo hbo hno hmo hvo => ?_)
  have hbo' : upd H b1 (.var (c.cs.map .d)) bo = none := hbo
  have e1o : eqn b1 bo = false := hno b1 (by simp -dsimp (maxDischargeDepth := 9) only [go_sem, Nat.reduceBEq, Nat.reduceLT, Nat.reduceAdd, Nat.reduceSub, Nat.reduceMul, Nat.reduceLeDiff, Int.reduceLE, Int.toNat_natCast, Int.natCast_nonneg, List.getElem?_map, List.length_map, Nat.zero_add, eq_self, Bool.not_true, Bool.not_false])
  have hle1 : LeH H (upd H b1 (.var (c.cs.map .d))) := leH_upd hb1 (.refl _)
  simp -dsimp (maxDischargeDepth := 9) only [go_sem, Nat.reduceBEq, Nat.reduceLT, Nat.reduceAdd, Nat.reduceSub, Nat.reduceMul, Nat.reduceLeDiff, Int.reduceLE, Int.toNat_natCast, Int.natCast_nonneg, List.getElem?_map, List.length_map, Nat.zero_add, eq_self, Bool.not_true, Bool.not_false, e1o, List.length_replicate]
  refine (fun (key : ∀ out : List Bool, QInv c.body out out false → ∀ G2, LeH (upd (upd H b1 (.var (c.cs.map .d))) bo (.arr 4 1 vo (out.map .bool))) G2 → (?T : Heap → Prop) G2) => ?main) ?rest
  case main =>
    refine gif_split (fun h1 => ?_) (fun h1 => ?_)
    · have hpos : 0 < c.body.length := by simp at h1; omega
      have hz : Int.toNat 0 < c.body.length := hpos
      have hrep : (List.replicate c.body.length (D.bool false))[Int.toNat 0]? = some (D.bool false) := by simp [hpos]
      simp -dsimp (maxDischargeDepth := 9) only [go_sem, Nat.reduceBEq, Nat.reduceLT, Nat.reduceAdd, Nat.reduceSub, Nat.reduceMul, Nat.reduceLeDiff, Int.reduceLE, Int.toNat_natCast, Int.natCast_nonneg, List.getElem?_map, List.length_map, Nat.zero_add, eq_self, Bool.not_true, Bool.not_false, e1o, List.length_replicate, hz, hrep]
      rw [upd_upd]
      have e : (List.replicate c.body.length (D.bool false)).set (Int.toNat 0) (D.bool true) = ((List.replicate c.body.length false).set 0 true).map D.bool := by simp [List.map_set]
      rw [e]
      show svc _ _ _ _ _ _ (upd (upd H b1 (.var (c.cs.map .d))) bo (.arr 4 1 vo (((List.replicate c.body.length false).set 0 true).map D.bool)))
      have hG := key ((List.replicate c.body.length false).set 0 true) ⟨by simp, ?_, fun _ => by simp [hpos], fun _ => rfl, fun x => (by cases x)⟩ _ (.refl _)
      · generalize upd (upd H b1 (.var (c.cs.map .d))) bo (.arr 4 1 vo (((List.replicate c.body.length false).set 0 true).map D.bool)) = G2 at hG ⊢
        exact hG
      · intro p hp
        rw [List.getElem?_set] at hp
        split at hp
        · rename_i e; subst e; exact .zero hpos
        · simp [List.getElem?_replicate] at hp
    · have hn0 : c.body.length = 0 := by simp at h1; simp [h1]
      simp -dsimp (maxDischargeDepth := 9) only [go_sem, Nat.reduceBEq, Nat.reduceLT, Nat.reduceAdd, Nat.reduceSub, Nat.reduceMul, Nat.reduceLeDiff, Int.reduceLE, Int.toNat_natCast, Int.natCast_nonneg, List.getElem?_map, List.length_map, Nat.zero_add, eq_self, Bool.not_true, Bool.not_false]
      have e : List.replicate c.body.length (D.bool false) = (List.replicate c.body.length false).map D.bool := by simp
      rw [e]
      show svc _ _ _ _ _ _ (upd (upd H b1 (.var (c.cs.map .d))) bo (.arr 4 1 vo ((List.replicate c.body.length false).map D.bool)))
      have hG := key (List.replicate c.body.length false) ⟨by simp, fun p hp => by simp [List.getElem?_replicate] at hp, fun h => by omega, fun _ => rfl, fun x => (by cases x)⟩ _ (.refl _)
      generalize upd (upd H b1 (.var (c.cs.map .d))) bo (.arr 4 1 vo ((List.replicate c.body.length false).map D.bool)) = G2 at hG ⊢
      exact hG
  case rest =>
    intro out hQ G2 hle
    refine svc_loop (X := List Bool × Bool) (fun x => [(1, .ref b1 0), (3, .own bo vo), (4, .d (.bool x.2))])
      (fun x G => QInv c.body x.1 x.1 false ∧ (x.2 = false → ∀ (k : Nat) i t, c.body[k]? = some i → t ∈ goesI k i → ClosedTo c.body x.1 k t) ∧ LeH (upd (upd H b1 (.var (c.cs.map .d))) bo (.arr 4 1 vo (x.1.map .bool))) G)
      (fun x => 2 * falses x.1 + (if x.2 = true then 1 else 0)) (out, true) _ ⟨hQ, fun x => (by cases x), hle⟩ (by simp -dsimp (maxDischargeDepth := 9) only [go_sem, Nat.reduceBEq, Nat.reduceLT, Nat.reduceAdd, Nat.reduceSub, Nat.reduceMul, Nat.reduceLeDiff, Int.reduceLE, Int.toNat_natCast, Int.natCast_nonneg, List.getElem?_map, List.length_map, Nat.zero_add, eq_self, Bool.not_true, Bool.not_false]) (.refl _) ?_
    clear hQ hle
    rintro ⟨o0, ch⟩ G ⟨hQ, hcl, hle⟩
    simp only at hQ hcl hle
    simp -dsimp (maxDischargeDepth := 9) only [go_sem, Nat.reduceBEq, Nat.reduceLT, Nat.reduceAdd, Nat.reduceSub, Nat.reduceMul, Nat.reduceLeDiff, Int.reduceLE, Int.toNat_natCast, Int.natCast_nonneg, List.getElem?_map, List.length_map, Nat.zero_add, eq_self, Bool.not_true, Bool.not_false]
    cases ch with
    | false =>
      simp -dsimp (maxDischargeDepth := 9) only [go_sem, Nat.reduceBEq, Nat.reduceLT, Nat.reduceAdd, Nat.reduceSub, Nat.reduceMul, Nat.reduceLeDiff, Int.reduceLE, Int.toNat_natCast, Int.natCast_nonneg, List.getElem?_map, List.length_map, Nat.zero_add, eq_self, Bool.not_true, Bool.not_false]
      have hGo : G bo = some (.arr 4 1 vo (o0.map .bool)) := hle _ _ (upd_same ..)
      refine retW_deep ?_
      simp -dsimp (maxDischargeDepth := 9) only [go_sem, Nat.reduceBEq, Nat.reduceLT, Nat.reduceAdd, Nat.reduceSub, Nat.reduceMul, Nat.reduceLeDiff, Int.reduceLE, Int.toNat_natCast, Int.natCast_nonneg, List.getElem?_map, List.length_map, Nat.zero_add, eq_self, Bool.not_true, Bool.not_false, hGo]
      refine retW_drop (G := H) ?_ (retW_is (hK o0 hQ.len (hQ.done (hcl rfl))))
      exact leH_upd (LeH.free hle1 hbo') ((LeH.up hle1 hbo').trans hle)
    | true =>
      have hG1 : G b1 = some (.var (c.cs.map .d)) := hle _ _ (by rw [upd_ne _ _ (of_decide_eq_false e1o)]; exact upd_same ..)
      simp -dsimp (maxDischargeDepth := 9) only [go_sem, Nat.reduceBEq, Nat.reduceLT, Nat.reduceAdd, Nat.reduceSub, Nat.reduceMul, Nat.reduceLeDiff, Int.reduceLE, Int.toNat_natCast, Int.natCast_nonneg, List.getElem?_map, List.length_map, Nat.zero_add, eq_self, Bool.not_true, Bool.not_false, hG1, Cod.cs]
      refine svc_loop (X := Nat × List Bool × Bool) (fun x => [(1, .ref b1 0), (3, .own bo vo), (4, .d (.bool x.2.2)), (22, .d (.slice (c.body.map Ins.d))), (23, .d (.int .i64 c.body.length)), (24, .d (.int .i64 x.1))])
        (fun x G => x.1 ≤ c.body.length ∧ QInv c.body o0 x.2.1 x.2.2 ∧ (x.2.2 = false → ∀ (k : Nat) i t, k < x.1 → c.body[k]? = some i → t ∈ goesI k i → ClosedTo c.body o0 k t) ∧ LeH (upd (upd H b1 (.var (c.cs.map .d))) bo (.arr 4 1 vo (x.2.1.map .bool))) G)
        (fun x => c.body.length - x.1) (0, o0, false) _ ⟨Nat.zero_le _, hQ, fun _ k i t h => absurd h (Nat.not_lt_zero _), hle⟩ (by simp -dsimp (maxDischargeDepth := 9) only [go_sem, Nat.reduceBEq, Nat.reduceLT, Nat.reduceAdd, Nat.reduceSub, Nat.reduceMul, Nat.reduceLeDiff, Int.reduceLE, Int.toNat_natCast, Int.natCast_nonneg, List.getElem?_map, List.length_map, Nat.zero_add, eq_self, Bool.not_true, Bool.not_false, Int.natCast_zero]) (.refl _) ?_
      clear hle hG1
      rintro ⟨k, out, ch⟩ G ⟨hk, hI, hcl', hle⟩
      simp only at hk hI hcl' hle
      simp -dsimp (maxDischargeDepth := 9) only [go_sem, Nat.reduceBEq, Nat.reduceLT, Nat.reduceAdd, Nat.reduceSub, Nat.reduceMul, Nat.reduceLeDiff, Int.reduceLE, Int.toNat_natCast, Int.natCast_nonneg, List.getElem?_map, List.length_map, Nat.zero_add, eq_self, Bool.not_true, Bool.not_false]
      refine gif_split (fun h1 => ?_) (fun h1 => ?_)
      · have hk' : k < c.body.length := by simpa using h1
        obtain ⟨i, hi⟩ : ∃ i, c.body[k]? = some i := ⟨c.body[k], by simp [hk']⟩
        have hw1 := wrapS (k := k) (by omega)
        simp -dsimp (maxDischargeDepth := 9) only [go_sem, Nat.reduceBEq, Nat.reduceLT, Nat.reduceAdd, Nat.reduceSub, Nat.reduceMul, Nat.reduceLeDiff, Int.reduceLE, Int.toNat_natCast, Int.natCast_nonneg, List.getElem?_map, List.length_map, Nat.zero_add, eq_self, Bool.not_true, Bool.not_false, hi, hk', Ins.d, Ins.cs]
        refine newK_intro (fun b6 hb6 hn6 hm6 => ?_)
        simp -dsimp (maxDischargeDepth := 9) only [go_sem, Nat.reduceBEq, Nat.reduceLT, Nat.reduceAdd, Nat.reduceSub, Nat.reduceMul, Nat.reduceLeDiff, Int.reduceLE, Int.toNat_natCast, Int.natCast_nonneg, List.getElem?_map, List.length_map, Nat.zero_add, eq_self, Bool.not_true, Bool.not_false]
        have hleG := LeH.trans hle (LeH.up (o := .var (i.cs.map .d)) (.refl G) hb6)
        refine ACall.le (G := G) ?_ (leH_upd hb6 (leH_upd hb6 (.refl _)))
        refine goes_ok _ (k : Int) (by omega) (by omega) i _ ?_
        simp -dsimp (maxDischargeDepth := 9) only [go_sem, Nat.reduceBEq, Nat.reduceLT, Nat.reduceAdd, Nat.reduceSub, Nat.reduceMul, Nat.reduceLeDiff, Int.reduceLE, Int.toNat_natCast, Int.natCast_nonneg, List.getElem?_map, List.length_map, Nat.zero_add, eq_self, Bool.not_true, Bool.not_false]
        have hgl2 := goesI_length k i
        refine svc_loop (X := Nat × List Bool × Bool) (fun x => [(1, .ref b1 0), (3, .own bo vo), (4, .d (.bool x.2.2)), (5, .d (.int .i64 k)), (22, .d (.slice (c.body.map Ins.d))), (23, .d (.int .i64 c.body.length)), (24, .d (.int .i64 k)), (35, .d (ints (goesI k i))), (36, .d (.int .i64 (goesI k i).length)), (37, .d (.int .i64 x.1))])
          (fun x G => x.1 ≤ (goesI k i).length ∧ QInv c.body o0 x.2.1 x.2.2 ∧ (x.2.2 = false → ch = false ∧ ∀ (j : Nat) t, j < x.1 → (goesI k i)[j]? = some t → ClosedTo c.body o0 k t) ∧ LeH (upd (upd H b1 (.var (c.cs.map .d))) bo (.arr 4 1 vo (x.2.1.map .bool))) G)
          (fun x => (goesI k i).length - x.1) (0, out, ch) _ ⟨Nat.zero_le _, hI, fun h => ⟨h, fun j t h => absurd h (Nat.not_lt_zero _)⟩, hle⟩ (by simp -dsimp (maxDischargeDepth := 9) only [go_sem, Nat.reduceBEq, Nat.reduceLT, Nat.reduceAdd, Nat.reduceSub, Nat.reduceMul, Nat.reduceLeDiff, Int.reduceLE, Int.toNat_natCast, Int.natCast_nonneg, List.getElem?_map, List.length_map, Nat.zero_add, eq_self, Bool.not_true, Bool.not_false, Int.natCast_zero]) (.refl _) ?_
        clear hle hleG hI
        rintro ⟨j, out, ch'⟩ G ⟨hj, hI, hcl2, hle⟩
        simp only at hj hI hcl2 hle
        have hGo : G bo = some (.arr 4 1 vo (out.map .bool)) := hle _ _ (upd_same ..)
        simp -dsimp (maxDischargeDepth := 9) only [go_sem, Nat.reduceBEq, Nat.reduceLT, Nat.reduceAdd, Nat.reduceSub, Nat.reduceMul, Nat.reduceLeDiff, Int.reduceLE, Int.toNat_natCast, Int.natCast_nonneg, List.getElem?_map, List.length_map, Nat.zero_add, eq_self, Bool.not_true, Bool.not_false]
        refine gif_split (fun h2 => ?_) (fun h2 => ?_)
        · have hj' : j < (goesI k i).length := by simpa using h2
          obtain ⟨t, ht⟩ : ∃ t, (goesI k i)[j]? = some t := ⟨(goesI k i)[j], by simp [hj']⟩
          have hwj := wrapS (k := j) (by omega)
          have hkl : k < out.length := by rw [hI.len]; exact hk'
          obtain ⟨x, hx⟩ : ∃ x, out[k]? = some x := ⟨out[k], by simp [hkl]⟩
          have same : (ch' = false → ClosedTo c.body o0 k t) → j + 1 ≤ (goesI k i).length ∧ QInv c.body o0 out ch' ∧ (ch' = false → ch = false ∧ ∀ (j' : Nat) t, j' < j + 1 → (goesI k i)[j']? = some t → ClosedTo c.body o0 k t) ∧ LeH (upd (upd H b1 (.var (c.cs.map .d))) bo (.arr 4 1 vo (out.map .bool))) G := by
            intro h
            refine ⟨by omega, hI, fun hc => ⟨(hcl2 hc).1, ?_⟩, hle⟩
            intro j' t' hj' ht'
            rcases Nat.lt_succ_iff_lt_or_eq.1 hj' with hj'' | rfl
            · exact (hcl2 hc).2 j' t' hj'' ht'
            · rw [ht] at ht'; cases ht'; exact h hc
          simp -dsimp (maxDischargeDepth := 9) only [go_sem, Nat.reduceBEq, Nat.reduceLT, Nat.reduceAdd, Nat.reduceSub, Nat.reduceMul, Nat.reduceLeDiff, Int.reduceLE, Int.toNat_natCast, Int.natCast_nonneg, List.getElem?_map, List.length_map, Nat.zero_add, eq_self, Bool.not_true, Bool.not_false, ht, hGo, hx, hkl]
          cases x with
          | false =>
            simp -dsimp (maxDischargeDepth := 9) only [go_sem, Nat.reduceBEq, Nat.reduceLT, Nat.reduceAdd, Nat.reduceSub, Nat.reduceMul, Nat.reduceLeDiff, Int.reduceLE, Int.toNat_natCast, Int.natCast_nonneg, List.getElem?_map, List.length_map, Nat.zero_add, eq_self, Bool.not_true, Bool.not_false, hwj]
            refine roundQ_next (j + 1, out, ch') G (same fun hc h => ?_) (by simp only; omega) (by simp -dsimp (maxDischargeDepth := 9) only [go_sem, Nat.reduceBEq, Nat.reduceLT, Nat.reduceAdd, Nat.reduceSub, Nat.reduceMul, Nat.reduceLeDiff, Int.reduceLE, Int.toNat_natCast, Int.natCast_nonneg, List.getElem?_map, List.length_map, Nat.zero_add, eq_self, Bool.not_true, Bool.not_false]) (.refl _)
            rw [← hI.keep hc, hx] at h; cases h
          | true =>
            simp -dsimp (maxDischargeDepth := 9) only [go_sem, Nat.reduceBEq, Nat.reduceLT, Nat.reduceAdd, Nat.reduceSub, Nat.reduceMul, Nat.reduceLeDiff, Int.reduceLE, Int.toNat_natCast, Int.natCast_nonneg, List.getElem?_map, List.length_map, Nat.zero_add, eq_self, Bool.not_true, Bool.not_false]
            refine gif_split (fun h3 => ?_) (fun h3 => ?_)
            · have h3' : 0 ≤ t := by simpa using h3
              simp -dsimp (maxDischargeDepth := 9) only [go_sem, Nat.reduceBEq, Nat.reduceLT, Nat.reduceAdd, Nat.reduceSub, Nat.reduceMul, Nat.reduceLeDiff, Int.reduceLE, Int.toNat_natCast, Int.natCast_nonneg, List.getElem?_map, List.length_map, Nat.zero_add, eq_self, Bool.not_true, Bool.not_false, h3, hGo]
              refine gif_split (fun h4 => ?_) (fun h4 => ?_)
              · have h4' : t < (out.length : Int) := by simpa using h4
                obtain ⟨m, rfl⟩ : ∃ m : Nat, t = m := ⟨t.toNat, by omega⟩
                have hml : m < out.length := by omega
                obtain ⟨y, hy⟩ : ∃ x, out[m]? = some x := ⟨out[m], by simp [hml]⟩
                simp -dsimp (maxDischargeDepth := 9) only [go_sem, Nat.reduceBEq, Nat.reduceLT, Nat.reduceAdd, Nat.reduceSub, Nat.reduceMul, Nat.reduceLeDiff, Int.reduceLE, Int.toNat_natCast, Int.natCast_nonneg, List.getElem?_map, List.length_map, Nat.zero_add, eq_self, Bool.not_true, Bool.not_false, h3, h4, hGo, hy, hml]
                cases y with
                | true =>
                  simp -dsimp (maxDischargeDepth := 9) only [go_sem, Nat.reduceBEq, Nat.reduceLT, Nat.reduceAdd, Nat.reduceSub, Nat.reduceMul, Nat.reduceLeDiff, Int.reduceLE, Int.toNat_natCast, Int.natCast_nonneg, List.getElem?_map, List.length_map, Nat.zero_add, eq_self, Bool.not_true, Bool.not_false, hwj]
                  refine roundQ_next (j + 1, out, ch') G (same fun hc _ _ _ => ?_) (by simp only; omega) (by simp -dsimp (maxDischargeDepth := 9) only [go_sem, Nat.reduceBEq, Nat.reduceLT, Nat.reduceAdd, Nat.reduceSub, Nat.reduceMul, Nat.reduceLeDiff, Int.reduceLE, Int.toNat_natCast, Int.natCast_nonneg, List.getElem?_map, List.length_map, Nat.zero_add, eq_self, Bool.not_true, Bool.not_false]) (.refl _)
                  rw [← hI.keep hc]; exact hy
                | false =>
                  simp -dsimp (maxDischargeDepth := 9) only [go_sem, Nat.reduceBEq, Nat.reduceLT, Nat.reduceAdd, Nat.reduceSub, Nat.reduceMul, Nat.reduceLeDiff, Int.reduceLE, Int.toNat_natCast, Int.natCast_nonneg, List.getElem?_map, List.length_map, Nat.zero_add, eq_self, Bool.not_true, Bool.not_false, hGo, hy, hml, hwj]
                  refine roundQ_next (j + 1, out.set m true, true) _ ⟨by simp only; omega, hI.mark hi hx (List.mem_of_getElem? ht) hy, fun x => (by cases x), ?_⟩ (by simp only; omega) (by simp -dsimp (maxDischargeDepth := 9) only [go_sem, Nat.reduceBEq, Nat.reduceLT, Nat.reduceAdd, Nat.reduceSub, Nat.reduceMul, Nat.reduceLeDiff, Int.reduceLE, Int.toNat_natCast, Int.natCast_nonneg, List.getElem?_map, List.length_map, Nat.zero_add, eq_self, Bool.not_true, Bool.not_false]) (.refl _)
                  simp only
                  rw [List.map_set]
                  have := leH_both (b := bo) (o := .arr 4 1 vo ((out.map D.bool).set m (.bool true))) hle
                  rw [upd_upd] at this
                  exact this
              · simp -dsimp (maxDischargeDepth := 9) only [go_sem, Nat.reduceBEq, Nat.reduceLT, Nat.reduceAdd, Nat.reduceSub, Nat.reduceMul, Nat.reduceLeDiff, Int.reduceLE, Int.toNat_natCast, Int.natCast_nonneg, List.getElem?_map, List.length_map, Nat.zero_add, eq_self, Bool.not_true, Bool.not_false, h3, h4, hwj]
                refine roundQ_next (j + 1, out, ch') G (same fun hc _ _ hl => ?_) (by simp only; omega) (by simp -dsimp (maxDischargeDepth := 9) only [go_sem, Nat.reduceBEq, Nat.reduceLT, Nat.reduceAdd, Nat.reduceSub, Nat.reduceMul, Nat.reduceLeDiff, Int.reduceLE, Int.toNat_natCast, Int.natCast_nonneg, List.getElem?_map, List.length_map, Nat.zero_add, eq_self, Bool.not_true, Bool.not_false]) (.refl _)
                exfalso
                have := hI.len
                simp at h4; omega
            · simp -dsimp (maxDischargeDepth := 9) only [go_sem, Nat.reduceBEq, Nat.reduceLT, Nat.reduceAdd, Nat.reduceSub, Nat.reduceMul, Nat.reduceLeDiff, Int.reduceLE, Int.toNat_natCast, Int.natCast_nonneg, List.getElem?_map, List.length_map, Nat.zero_add, eq_self, Bool.not_true, Bool.not_false, h3, hwj]
              refine roundQ_next (j + 1, out, ch') G (same fun hc _ h0 => ?_) (by simp only; omega) (by simp -dsimp (maxDischargeDepth := 9) only [go_sem, Nat.reduceBEq, Nat.reduceLT, Nat.reduceAdd, Nat.reduceSub, Nat.reduceMul, Nat.reduceLeDiff, Int.reduceLE, Int.toNat_natCast, Int.natCast_nonneg, List.getElem?_map, List.length_map, Nat.zero_add, eq_self, Bool.not_true, Bool.not_false]) (.refl _)
              exfalso
              simp at h3; omega
        · have hj' : j = (goesI k i).length := by simp at h2; omega
          subst hj'
          simp -dsimp (maxDischargeDepth := 9) only [go_sem, Nat.reduceBEq, Nat.reduceLT, Nat.reduceAdd, Nat.reduceSub, Nat.reduceMul, Nat.reduceLeDiff, Int.reduceLE, Int.toNat_natCast, Int.natCast_nonneg, List.getElem?_map, List.length_map, Nat.zero_add, eq_self, Bool.not_true, Bool.not_false, hw1]
          refine roundQ_next (k + 1, out, ch') G ⟨by simp only; omega, hI, ?_, hle⟩ (by simp only; omega) (by simp -dsimp (maxDischargeDepth := 9) only [go_sem, Nat.reduceBEq, Nat.reduceLT, Nat.reduceAdd, Nat.reduceSub, Nat.reduceMul, Nat.reduceLeDiff, Int.reduceLE, Int.toNat_natCast, Int.natCast_nonneg, List.getElem?_map, List.length_map, Nat.zero_add, eq_self, Bool.not_true, Bool.not_false]) (.refl _)
          intro hc q i' t hq hi' ht
          simp only at hc
          obtain ⟨h0, h1⟩ := hcl2 hc
          rcases Nat.lt_succ_iff_lt_or_eq.1 hq with hq' | rfl
          · exact hcl' h0 q i' t hq' hi' ht
          · rw [hi] at hi'; cases hi'
            obtain ⟨j, hj⟩ := List.getElem?_of_mem ht
            exact h1 j t (List.getElem?_eq_some_iff.1 hj).1 hj
      · have hk' : k = c.body.length := by simp at h1; omega
        subst hk'
        simp -dsimp (maxDischargeDepth := 9) only [go_sem, Nat.reduceBEq, Nat.reduceLT, Nat.reduceAdd, Nat.reduceSub, Nat.reduceMul, Nat.reduceLeDiff, Int.reduceLE, Int.toNat_natCast, Int.natCast_nonneg, List.getElem?_map, List.length_map, Nat.zero_add, eq_self, Bool.not_true, Bool.not_false]
        refine roundQ_next (out, ch) G ⟨⟨hI.len, hI.sound, hI.first, fun _ => rfl, fun x => (by cases x)⟩, ?_, hle⟩ ?_ (by simp -dsimp (maxDischargeDepth := 9) only [go_sem, Nat.reduceBEq, Nat.reduceLT, Nat.reduceAdd, Nat.reduceSub, Nat.reduceMul, Nat.reduceLeDiff, Int.reduceLE, Int.toNat_natCast, Int.natCast_nonneg, List.getElem?_map, List.length_map, Nat.zero_add, eq_self, Bool.not_true, Bool.not_false]) (.refl _)
        · intro hc q i t hi ht
          simp only at hc
          rw [hI.keep hc]
          exact hcl' hc q i t (List.getElem?_eq_some_iff.1 hi).1 hi ht
        · cases ch with
          | false => simp only [hI.keep rfl]; simp
          | true => have := hI.less rfl; simp only; omega

end Go.Aug

/- Is a code in form? -/
namespace Go.Aug
open Go.Proofs
set_option maxRecDepth 100000
set_option linter.unusedSimpArgs false
attribute [local irreducible] hid andK letA onSome onVar onArr arrOnly onInt onBool onFunc onTup idxA ldV ldD addO ofPart appTo fillL slA srcK nilQ retW gif sgd sguard svc sops sdops sagain aopO aLoad aStore aBin aUn aConv aLen aIndexAddr aIndex aSlice aAppend aBuild aBuildSlice aMakeSlice aField aFieldOf aCallOp deepK deepL frzM putE newK newV growV ACall roundQ thenQ inBlockQ sret cnd szs nilC

/-- A type. -/
inductive Ty where
  | mk (kind : Int) (name : ByteArray) (var : Int) (args : List Ty)
def Ty.d : Ty → D
  | .mk k n v args => .agg [.int .i64 k, .str n, .int .i64 v, .slice (args.map Ty.d)]
theorem Ty.cells (t : Ty) : t.d.cells.length = 4 := by cases t; simp [Ty.d, D.cells]
theorem szs_ty (l : List Ty) : szs 4 (l.map Ty.d) = True := szs_map Ty.cells l

set_option maxHeartbeats 2000000 in
theorem typ_ok {eb : Nat → Addr} : ∀ (n : Nat) (t : Ty), SizeOf.sizeOf t < n → ∀ (H : Heap) (nest : Int), 0 ≤ nest → nest ≤ 100 → ∀ (K : A → Heap → Prop), (∀ b, K (.d (.bool b)) H) → ACall Tryd.prog (seatV eb) 48 [.d t.d, .d (.int .i64 nest)] H K
  | 0, t, h, _, _, _, _, _, _ => by omega
  | n + 1, .mk kind name var args, hsz, H, nest, h0, h1, K, hK => by
    have hsz' : ∀ x ∈ args, SizeOf.sizeOf x < n := by
      intro x hx
      have := List.sizeOf_lt_of_mem hx
      simp only [Ty.mk.sizeOf_spec] at hsz
      omega
    refine ACall.by mixed fn48 (by simp) ?_
    conv in s48 => cbv
    refine svc_start ?_
    simp -dsimp (maxDischargeDepth := 9) only [go_sem, Nat.reduceBEq, Nat.reduceLT, Nat.reduceAdd, Nat.reduceSub, Nat.reduceMul, Nat.reduceLeDiff, Int.reduceLE, Int.toNat_natCast, Int.natCast_nonneg, List.getElem?_map, List.length_map, Nat.zero_add, eq_self, Bool.not_true, Bool.not_false, Ty.d]
    refine newK_intro (fun b2 hb2 hn2 hm2 => ?_)
    simp -dsimp (maxDischargeDepth := 9) only [go_sem, Nat.reduceBEq, Nat.reduceLT, Nat.reduceAdd, Nat.reduceSub, Nat.reduceMul, Nat.reduceLeDiff, Int.reduceLE, Int.toNat_natCast, Int.natCast_nonneg, List.getElem?_map, List.length_map, Nat.zero_add, eq_self, Bool.not_true, Bool.not_false]
    refine newK_intro (fun b5 hb5 hn5 hm5 => ?_)
    have e25 : eqn b2 b5 = false := hn5 b2 (by simp -dsimp (maxDischargeDepth := 9) only [go_sem, Nat.reduceBEq, Nat.reduceLT, Nat.reduceAdd, Nat.reduceSub, Nat.reduceMul, Nat.reduceLeDiff, Int.reduceLE, Int.toNat_natCast, Int.natCast_nonneg, List.getElem?_map, List.length_map, Nat.zero_add, eq_self, Bool.not_true, Bool.not_false])
    have hle : LeH H (upd H b2 (.var [.d (.int .i64 kind), .d (.str name), .d (.int .i64 var), .d (.slice (args.map Ty.d))])) := leH_upd hb2 (.refl _)
    have hb5H : H b5 = none := LeH.free hle hb5
    simp -dsimp (maxDischargeDepth := 9) only [go_sem, Nat.reduceBEq, Nat.reduceLT, Nat.reduceAdd, Nat.reduceSub, Nat.reduceMul, Nat.reduceLeDiff, Int.reduceLE, Int.toNat_natCast, Int.natCast_nonneg, List.getElem?_map, List.length_map, Nat.zero_add, eq_self, Bool.not_true, Bool.not_false, e25, upd_upd]
    refine (fun (key : (?T : Prop)) => ?main) ?rest
    case main =>
      repeat' (first | (refine gif_split (fun h => ?_) (fun h => ?_) <;> (try simp -dsimp (maxDischargeDepth := 9) only [go_sem, Nat.reduceBEq, Nat.reduceLT, Nat.reduceAdd, Nat.reduceSub, Nat.reduceMul, Nat.reduceLeDiff, Int.reduceLE, Int.toNat_natCast, Int.natCast_nonneg, List.getElem?_map, List.length_map, Nat.zero_add, eq_self, Bool.not_true, Bool.not_false, h, e25, upd_upd])))
      all_goals try (refine retW_drop (G := H) ?_ (retW_is (hK false)); refine leH_upd hb5H ?_; exact hle)
      all_goals
        have hc8 := of_decide_eq_false (show decide ((8 : Int) < args.length) = false by assumption)
        have hc64 := of_decide_eq_false (show decide ((64 : Int) < nest) = false by assumption)
        refine svc_loop (fun k : Nat => [(1, .d (.int .i64 nest)), (71, .d (.slice (args.map Ty.d))), (72, .d (.int .i64 args.length)), (73, .d (.int .i64 k))])
          (fun k G => LeH H G ∧ k ≤ args.length ∧ args.length ≤ 8 ∧ nest ≤ 64) (fun k => args.length - k) 0 H ⟨.refl _, Nat.zero_le _, ?_, ?_⟩ ?_ ?_ ?_
        rotate_right
        · exact key
        · omega
        · omega
        · simp -dsimp (maxDischargeDepth := 9) only [go_sem, Nat.reduceBEq, Nat.reduceLT, Nat.reduceAdd, Nat.reduceSub, Nat.reduceMul, Nat.reduceLeDiff, Int.reduceLE, Int.toNat_natCast, Int.natCast_nonneg, List.getElem?_map, List.length_map, Nat.zero_add, eq_self, Bool.not_true, Bool.not_false, Int.natCast_zero]
        · refine leH_upd hb5H ?_; exact hle
    case rest =>
      rintro k G ⟨hle, hk, h8, h64⟩
      have hwn : IntKind.i64.wrap (nest + 1) = nest + 1 := wrap64 (by omega) (by omega)
      simp -dsimp (maxDischargeDepth := 9) only [go_sem, Nat.reduceBEq, Nat.reduceLT, Nat.reduceAdd, Nat.reduceSub, Nat.reduceMul, Nat.reduceLeDiff, Int.reduceLE, Int.toNat_natCast, Int.natCast_nonneg, List.getElem?_map, List.length_map, Nat.zero_add, eq_self, Bool.not_true, Bool.not_false]
      refine gif_split (fun h1 => ?_) (fun h1 => ?_)
      · have hk' : k < args.length := by simpa using h1
        obtain ⟨x, hx⟩ : ∃ x, args[k]? = some x := ⟨args[k], by simp [hk']⟩
        have hw1 := wrapS (k := k) (by omega)
        have hxs := hsz' x (List.mem_of_getElem? hx)
        obtain ⟨kx, nx, vx, ax⟩ := x
        simp -dsimp (maxDischargeDepth := 9) only [go_sem, Nat.reduceBEq, Nat.reduceLT, Nat.reduceAdd, Nat.reduceSub, Nat.reduceMul, Nat.reduceLeDiff, Int.reduceLE, Int.toNat_natCast, Int.natCast_nonneg, List.getElem?_map, List.length_map, Nat.zero_add, eq_self, Bool.not_true, Bool.not_false, hx, Ty.d]
        refine newK_intro (fun b7 hb7 hn7 hm7 => ?_)
        simp -dsimp (maxDischargeDepth := 9) only [go_sem, Nat.reduceBEq, Nat.reduceLT, Nat.reduceAdd, Nat.reduceSub, Nat.reduceMul, Nat.reduceLeDiff, Int.reduceLE, Int.toNat_natCast, Int.natCast_nonneg, List.getElem?_map, List.length_map, Nat.zero_add, eq_self, Bool.not_true, Bool.not_false, hwn]
        have e : D.agg [.int .i64 kx, .str nx, .int .i64 vx, .slice (ax.map Ty.d)] = (Ty.mk kx nx vx ax).d := by simp [Ty.d]
        rw [e]
        refine ACall.le (G := G) ?_ (leH_upd hb7 (leH_upd hb7 (.refl _)))
        refine typ_ok n _ hxs G _ (by omega) (by omega) _ (fun b => ?_)
        simp -dsimp (maxDischargeDepth := 9) only [go_sem, Nat.reduceBEq, Nat.reduceLT, Nat.reduceAdd, Nat.reduceSub, Nat.reduceMul, Nat.reduceLeDiff, Int.reduceLE, Int.toNat_natCast, Int.natCast_nonneg, List.getElem?_map, List.length_map, Nat.zero_add, eq_self, Bool.not_true, Bool.not_false]
        refine gif_split (fun h2 => ?_) (fun h2 => ?_)
        · simp -dsimp (maxDischargeDepth := 9) only [go_sem, Nat.reduceBEq, Nat.reduceLT, Nat.reduceAdd, Nat.reduceSub, Nat.reduceMul, Nat.reduceLeDiff, Int.reduceLE, Int.toNat_natCast, Int.natCast_nonneg, List.getElem?_map, List.length_map, Nat.zero_add, eq_self, Bool.not_true, Bool.not_false]
          exact retW_drop hle (retW_is (hK false))
        · simp -dsimp (maxDischargeDepth := 9) only [go_sem, Nat.reduceBEq, Nat.reduceLT, Nat.reduceAdd, Nat.reduceSub, Nat.reduceMul, Nat.reduceLeDiff, Int.reduceLE, Int.toNat_natCast, Int.natCast_nonneg, List.getElem?_map, List.length_map, Nat.zero_add, eq_self, Bool.not_true, Bool.not_false, hw1]
          exact roundQ_next (k + 1) G ⟨hle, by omega, h8, h64⟩ (by omega) (by simp -dsimp (maxDischargeDepth := 9) only [go_sem, Nat.reduceBEq, Nat.reduceLT, Nat.reduceAdd, Nat.reduceSub, Nat.reduceMul, Nat.reduceLeDiff, Int.reduceLE, Int.toNat_natCast, Int.natCast_nonneg, List.getElem?_map, List.length_map, Nat.zero_add, eq_self, Bool.not_true, Bool.not_false]) (.refl _)
      · simp -dsimp (maxDischargeDepth := 9) only [go_sem, Nat.reduceBEq, Nat.reduceLT, Nat.reduceAdd, Nat.reduceSub, Nat.reduceMul, Nat.reduceLeDiff, Int.reduceLE, Int.toNat_natCast, Int.natCast_nonneg, List.getElem?_map, List.length_map, Nat.zero_add, eq_self, Bool.not_true, Bool.not_false]
        exact retW_drop hle (retW_is (hK true))

theorem typs_ok {eb : Nat → Addr} (H : Heap) (l : List Ty) (hl : l.length < 1099511627776) (K : A → Heap → Prop) (hK : ∀ b, K (.d (.bool b)) H) : ACall Tryd.prog (seatV eb) 29 [.d (.slice (l.map Ty.d))] H K := by
  refine ACall.by mixed fn29 (by simp) ?_
  conv in s29 => cbv
  refine svc_start ?_
  simp -dsimp (maxDischargeDepth := 9) only [go_sem, Nat.reduceBEq, Nat.reduceLT, Nat.reduceAdd, Nat.reduceSub, Nat.reduceMul, Nat.reduceLeDiff, Int.reduceLE, Int.toNat_natCast, Int.natCast_nonneg, List.getElem?_map, List.length_map, Nat.zero_add, eq_self, Bool.not_true, Bool.not_false]
  refine svc_loop (fun k : Nat => [(5, .d (.slice (l.map Ty.d))), (6, .d (.int .i64 l.length)), (7, .d (.int .i64 k))]) (fun k G => LeH H G ∧ k ≤ l.length) (fun k => l.length - k) 0 H ⟨.refl _, Nat.zero_le _⟩ (by simp -dsimp (maxDischargeDepth := 9) only [go_sem, Nat.reduceBEq, Nat.reduceLT, Nat.reduceAdd, Nat.reduceSub, Nat.reduceMul, Nat.reduceLeDiff, Int.reduceLE, Int.toNat_natCast, Int.natCast_nonneg, List.getElem?_map, List.length_map, Nat.zero_add, eq_self, Bool.not_true, Bool.not_false, Int.natCast_zero]) (.refl _) ?_
  rintro k G ⟨hle, hk⟩
  simp -dsimp (maxDischargeDepth := 9) only [go_sem, Nat.reduceBEq, Nat.reduceLT, Nat.reduceAdd, Nat.reduceSub, Nat.reduceMul, Nat.reduceLeDiff, Int.reduceLE, Int.toNat_natCast, Int.natCast_nonneg, List.getElem?_map, List.length_map, Nat.zero_add, eq_self, Bool.not_true, Bool.not_false]
  refine gif_split (fun h1 => ?_) (fun h1 => ?_)
  · have hk' : k < l.length := by simpa using h1
    obtain ⟨x, hx⟩ : ∃ x, l[k]? = some x := ⟨l[k], by simp [hk']⟩
    have hw1 := wrapS (k := k) (by omega)
    obtain ⟨kx, nx, vx, ax⟩ := x
    simp -dsimp (maxDischargeDepth := 9) only [go_sem, Nat.reduceBEq, Nat.reduceLT, Nat.reduceAdd, Nat.reduceSub, Nat.reduceMul, Nat.reduceLeDiff, Int.reduceLE, Int.toNat_natCast, Int.natCast_nonneg, List.getElem?_map, List.length_map, Nat.zero_add, eq_self, Bool.not_true, Bool.not_false, hx, Ty.d]
    refine newK_intro (fun b7 hb7 hn7 hm7 => ?_)
    simp -dsimp (maxDischargeDepth := 9) only [go_sem, Nat.reduceBEq, Nat.reduceLT, Nat.reduceAdd, Nat.reduceSub, Nat.reduceMul, Nat.reduceLeDiff, Int.reduceLE, Int.toNat_natCast, Int.natCast_nonneg, List.getElem?_map, List.length_map, Nat.zero_add, eq_self, Bool.not_true, Bool.not_false]
    have e : D.agg [.int .i64 kx, .str nx, .int .i64 vx, .slice (ax.map Ty.d)] = (Ty.mk kx nx vx ax).d := by simp [Ty.d]
    rw [e]
    refine ACall.le (G := G) ?_ (leH_upd hb7 (leH_upd hb7 (.refl _)))
    refine typ_ok _ _ (Nat.lt_succ_self _) G 1 (by omega) (by omega) _ (fun b => ?_)
    simp -dsimp (maxDischargeDepth := 9) only [go_sem, Nat.reduceBEq, Nat.reduceLT, Nat.reduceAdd, Nat.reduceSub, Nat.reduceMul, Nat.reduceLeDiff, Int.reduceLE, Int.toNat_natCast, Int.natCast_nonneg, List.getElem?_map, List.length_map, Nat.zero_add, eq_self, Bool.not_true, Bool.not_false]
    refine gif_split (fun h2 => ?_) (fun h2 => ?_)
    · simp -dsimp (maxDischargeDepth := 9) only [go_sem, Nat.reduceBEq, Nat.reduceLT, Nat.reduceAdd, Nat.reduceSub, Nat.reduceMul, Nat.reduceLeDiff, Int.reduceLE, Int.toNat_natCast, Int.natCast_nonneg, List.getElem?_map, List.length_map, Nat.zero_add, eq_self, Bool.not_true, Bool.not_false]
      exact retW_drop hle (retW_is (hK false))
    · simp -dsimp (maxDischargeDepth := 9) only [go_sem, Nat.reduceBEq, Nat.reduceLT, Nat.reduceAdd, Nat.reduceSub, Nat.reduceMul, Nat.reduceLeDiff, Int.reduceLE, Int.toNat_natCast, Int.natCast_nonneg, List.getElem?_map, List.length_map, Nat.zero_add, eq_self, Bool.not_true, Bool.not_false, hw1]
      exact roundQ_next (k + 1) G ⟨hle, by omega⟩ (by omega) (by simp -dsimp (maxDischargeDepth := 9) only [go_sem, Nat.reduceBEq, Nat.reduceLT, Nat.reduceAdd, Nat.reduceSub, Nat.reduceMul, Nat.reduceLeDiff, Int.reduceLE, Int.toNat_natCast, Int.natCast_nonneg, List.getElem?_map, List.length_map, Nat.zero_add, eq_self, Bool.not_true, Bool.not_false]) (.refl _)
  · simp -dsimp (maxDischargeDepth := 9) only [go_sem, Nat.reduceBEq, Nat.reduceLT, Nat.reduceAdd, Nat.reduceSub, Nat.reduceMul, Nat.reduceLeDiff, Int.reduceLE, Int.toNat_natCast, Int.natCast_nonneg, List.getElem?_map, List.length_map, Nat.zero_add, eq_self, Bool.not_true, Bool.not_false]
    exact retW_drop hle (retW_is (hK true))

/- No types: an empty text. -/
@[go_sem] theorem lt00 : decide ((0 : Int) < 0) = false := by decide
attribute [local go_sem] Int.natCast_zero

theorem all_ok {eb : Nat → Addr} (H : Heap) (K : A → Heap → Prop) (hK : K (.tup [.d (.slice []), .d (.slice []), .d (.bool true)]) H) : ACall Tryd.prog (seatV eb) 70 [.d (.str ⟨#[]⟩)] H K := by
  refine ACall.by mixed fn70 (by simp) ?_
  conv in s70 => cbv
  refine svc_start ?_
  simp -dsimp (maxDischargeDepth := 9) only [go_sem, Nat.reduceBEq, Nat.reduceLT, Nat.reduceAdd, Nat.reduceSub, Nat.reduceMul, Nat.reduceLeDiff, Int.reduceLE, Int.toNat_natCast, Int.natCast_nonneg, List.getElem?_map, List.length_map, Nat.zero_add, eq_self, Bool.not_true, Bool.not_false]
  refine newV_intro (fun b1 v1 hb1 hn1 hm1 hv1 => ?_)
  simp -dsimp (maxDischargeDepth := 9) only [go_sem, Nat.reduceBEq, Nat.reduceLT, Nat.reduceAdd, Nat.reduceSub, Nat.reduceMul, Nat.reduceLeDiff, Int.reduceLE, Int.toNat_natCast, Int.natCast_nonneg, List.getElem?_map, List.length_map, Nat.zero_add, eq_self, Bool.not_true, Bool.not_false]
  refine newV_intro (fun b2 v2 hb2 hn2 hm2 hv2 => ?_)
  have e12 : eqn b1 b2 = false := hn2 b1 (by simp -dsimp (maxDischargeDepth := 9) only [go_sem, Nat.reduceBEq, Nat.reduceLT, Nat.reduceAdd, Nat.reduceSub, Nat.reduceMul, Nat.reduceLeDiff, Int.reduceLE, Int.toNat_natCast, Int.natCast_nonneg, List.getElem?_map, List.length_map, Nat.zero_add, eq_self, Bool.not_true, Bool.not_false])
  have e21 : eqn b2 b1 = false := hm2 b1 (by simp -dsimp (maxDischargeDepth := 9) only [go_sem, Nat.reduceBEq, Nat.reduceLT, Nat.reduceAdd, Nat.reduceSub, Nat.reduceMul, Nat.reduceLeDiff, Int.reduceLE, Int.toNat_natCast, Int.natCast_nonneg, List.getElem?_map, List.length_map, Nat.zero_add, eq_self, Bool.not_true, Bool.not_false])
  have hle0 : LeH H (upd H b1 (.arr 3 1 v1 [])) := leH_upd hb1 (.refl _)
  have hle1 : LeH H (upd (upd H b1 (.arr 3 1 v1 [])) b2 (.arr 127 3 v2 [])) := LeH.up hle0 hb2
  simp -dsimp (maxDischargeDepth := 9) only [go_sem, Nat.reduceBEq, Nat.reduceLT, Nat.reduceAdd, Nat.reduceSub, Nat.reduceMul, Nat.reduceLeDiff, Int.reduceLE, Int.toNat_natCast, Int.natCast_nonneg, List.getElem?_map, List.length_map, Nat.zero_add, eq_self, Bool.not_true, Bool.not_false]
  refine svc_loop (fun _ : Unit => [(0, .d (.str ⟨#[]⟩)), (5, .own b1 v1), (6, .own b2 v2), (7, .d (.bool false)), (8, .d (.int .i64 0))]) (fun _ G => LeH H G ∧ G b1 = some (.arr 3 1 v1 []) ∧ G b2 = some (.arr 127 3 v2 [])) (fun _ => 0) () _ ⟨hle1, by simp -dsimp (maxDischargeDepth := 9) only [go_sem, Nat.reduceBEq, Nat.reduceLT, Nat.reduceAdd, Nat.reduceSub, Nat.reduceMul, Nat.reduceLeDiff, Int.reduceLE, Int.toNat_natCast, Int.natCast_nonneg, List.getElem?_map, List.length_map, Nat.zero_add, eq_self, Bool.not_true, Bool.not_false, e12], by simp -dsimp (maxDischargeDepth := 9) only [go_sem, Nat.reduceBEq, Nat.reduceLT, Nat.reduceAdd, Nat.reduceSub, Nat.reduceMul, Nat.reduceLeDiff, Int.reduceLE, Int.toNat_natCast, Int.natCast_nonneg, List.getElem?_map, List.length_map, Nat.zero_add, eq_self, Bool.not_true, Bool.not_false]⟩ (by simp -dsimp (maxDischargeDepth := 9) only [go_sem, Nat.reduceBEq, Nat.reduceLT, Nat.reduceAdd, Nat.reduceSub, Nat.reduceMul, Nat.reduceLeDiff, Int.reduceLE, Int.toNat_natCast, Int.natCast_nonneg, List.getElem?_map, List.length_map, Nat.zero_add, eq_self, Bool.not_true, Bool.not_false]) (.refl _) ?_
  rintro _ G ⟨hle, hG1, hG2⟩
  have hz : decide ((0 : Int) < ((ByteArray.mk #[]).size : Int)) = false := rfl
  simp -dsimp (maxDischargeDepth := 9) only [go_sem, Nat.reduceBEq, Nat.reduceLT, Nat.reduceAdd, Nat.reduceSub, Nat.reduceMul, Nat.reduceLeDiff, Int.reduceLE, Int.toNat_natCast, Int.natCast_nonneg, List.getElem?_map, List.length_map, Nat.zero_add, eq_self, Bool.not_true, Bool.not_false, hz]
  refine retW_tup [true, true, true] ?_
  simp -dsimp (maxDischargeDepth := 9) only [go_sem, Nat.reduceBEq, Nat.reduceLT, Nat.reduceAdd, Nat.reduceSub, Nat.reduceMul, Nat.reduceLeDiff, Int.reduceLE, Int.toNat_natCast, Int.natCast_nonneg, List.getElem?_map, List.length_map, Nat.zero_add, eq_self, Bool.not_true, Bool.not_false, hG1, hG2, e12, e21]
  refine retW_drop (G := H) ?_ (retW_is hK)
  exact leH_upd (LeH.free hle0 hb2) (leH_upd hb1 hle)

theorem lex_ok {eb : Nat → Addr} (H : Heap) (K : A → Heap → Prop) (hK : K (.tup [.d (.slice []), .d (.int .i64 0)]) H) : ACall Tryd.prog (seatV eb) 53 [.d (.str ⟨#[]⟩)] H K := by
  refine ACall.by mixed fn53 (by simp) ?_
  conv in s53 => cbv
  refine svc_start ?_
  have hz : decide ((16384 : Int) < ((ByteArray.mk #[]).size : Int)) = false := rfl
  simp -dsimp (maxDischargeDepth := 9) only [go_sem, Nat.reduceBEq, Nat.reduceLT, Nat.reduceAdd, Nat.reduceSub, Nat.reduceMul, Nat.reduceLeDiff, Int.reduceLE, Int.toNat_natCast, Int.natCast_nonneg, List.getElem?_map, List.length_map, Nat.zero_add, eq_self, Bool.not_true, Bool.not_false, hz]
  refine all_ok _ _ ?_
  simp -dsimp (maxDischargeDepth := 9) only [go_sem, Nat.reduceBEq, Nat.reduceLT, Nat.reduceAdd, Nat.reduceSub, Nat.reduceMul, Nat.reduceLeDiff, Int.reduceLE, Int.toNat_natCast, Int.natCast_nonneg, List.getElem?_map, List.length_map, Nat.zero_add, eq_self, Bool.not_true, Bool.not_false]
  exact retW_is hK

theorem read_ok {eb : Nat → Addr} (H : Heap) (K : A → Heap → Prop) (hK : ∀ b, H b = none → K (.ref b 0) (upd H b (.var [.d (.slice []), .d (.int .i64 0), .d (.int .i64 0)]))) : ACall Tryd.prog (seatV eb) 40 [.d (.str ⟨#[]⟩)] H K := by
  refine ACall.by mixed fn40 (by simp) ?_
  conv in s40 => cbv
  refine svc_start ?_
  simp -dsimp (maxDischargeDepth := 9) only [go_sem, Nat.reduceBEq, Nat.reduceLT, Nat.reduceAdd, Nat.reduceSub, Nat.reduceMul, Nat.reduceLeDiff, Int.reduceLE, Int.toNat_natCast, Int.natCast_nonneg, List.getElem?_map, List.length_map, Nat.zero_add, eq_self, Bool.not_true, Bool.not_false]
  refine lex_ok _ _ ?_
  simp -dsimp (maxDischargeDepth := 9) only [go_sem, Nat.reduceBEq, Nat.reduceLT, Nat.reduceAdd, Nat.reduceSub, Nat.reduceMul, Nat.reduceLeDiff, Int.reduceLE, Int.toNat_natCast, Int.natCast_nonneg, List.getElem?_map, List.length_map, Nat.zero_add, eq_self, Bool.not_true, Bool.not_false]
  refine newK_intro (fun b hb hn hm => ?_)
  simp -dsimp (maxDischargeDepth := 9) only [go_sem, Nat.reduceBEq, Nat.reduceLT, Nat.reduceAdd, Nat.reduceSub, Nat.reduceMul, Nat.reduceLeDiff, Int.reduceLE, Int.toNat_natCast, Int.natCast_nonneg, List.getElem?_map, List.length_map, Nat.zero_add, eq_self, Bool.not_true, Bool.not_false]
  exact retW_is (hK b hb)

theorem end_ok {eb : Nat → Addr} (H : Heap) (b : Nat) (hb : H b = some (.var [.d (.slice []), .d (.int .i64 0), .d (.int .i64 0)])) (K : A → Heap → Prop) (hK : K (.d (.bool true)) H) : ACall Tryd.prog (seatV eb) 41 [.ref b 0] H K := by
  refine ACall.by mixed fn41 (by simp) ?_
  conv in s41 => cbv
  refine svc_start ?_
  simp -dsimp (maxDischargeDepth := 9) only [go_sem, Nat.reduceBEq, Nat.reduceLT, Nat.reduceAdd, Nat.reduceSub, Nat.reduceMul, Nat.reduceLeDiff, Int.reduceLE, Int.toNat_natCast, Int.natCast_nonneg, List.getElem?_map, List.length_map, Nat.zero_add, eq_self, Bool.not_true, Bool.not_false, hb]
  exact retW_is hK

theorem done_ok {eb : Nat → Addr} (H : Heap) (b : Nat) (hb : H b = some (.var [.d (.slice []), .d (.int .i64 0), .d (.int .i64 0)])) (K : A → Heap → Prop) (hK : K (.d (.int .i64 0)) H) : ACall Tryd.prog (seatV eb) 45 [.ref b 0] H K := by
  refine ACall.by mixed fn45 (by simp) ?_
  conv in s45 => cbv
  refine svc_start ?_
  simp -dsimp (maxDischargeDepth := 9) only [go_sem, Nat.reduceBEq, Nat.reduceLT, Nat.reduceAdd, Nat.reduceSub, Nat.reduceMul, Nat.reduceLeDiff, Int.reduceLE, Int.toNat_natCast, Int.natCast_nonneg, List.getElem?_map, List.length_map, Nat.zero_add, eq_self, Bool.not_true, Bool.not_false, hb]
  exact retW_is hK

theorem source2_ok {eb : Nat → Addr} (H : Heap) (K : A → Heap → Prop) (hK : K (.tup [.d (.slice []), .d (.int .i64 0)]) H) : ACall Tryd.prog (seatV eb) 26 [.d (.str ⟨#[]⟩)] H K := by
  refine ACall.by mixed fn26 (by simp) ?_
  conv in s26 => cbv
  refine svc_start ?_
  simp -dsimp (maxDischargeDepth := 9) only [go_sem, Nat.reduceBEq, Nat.reduceLT, Nat.reduceAdd, Nat.reduceSub, Nat.reduceMul, Nat.reduceLeDiff, Int.reduceLE, Int.toNat_natCast, Int.natCast_nonneg, List.getElem?_map, List.length_map, Nat.zero_add, eq_self, Bool.not_true, Bool.not_false]
  refine read_ok _ _ (fun b4 hb4 => ?_)
  have hle0 : LeH H (upd H b4 (.var [.d (.slice []), .d (.int .i64 0), .d (.int .i64 0)])) := leH_upd hb4 (.refl _)
  simp -dsimp (maxDischargeDepth := 9) only [go_sem, Nat.reduceBEq, Nat.reduceLT, Nat.reduceAdd, Nat.reduceSub, Nat.reduceMul, Nat.reduceLeDiff, Int.reduceLE, Int.toNat_natCast, Int.natCast_nonneg, List.getElem?_map, List.length_map, Nat.zero_add, eq_self, Bool.not_true, Bool.not_false]
  refine newV_intro (fun b5 v5 hb5 hn5 hm5 hv5 => ?_)
  have e45 : eqn b4 b5 = false := hn5 b4 (by simp -dsimp (maxDischargeDepth := 9) only [go_sem, Nat.reduceBEq, Nat.reduceLT, Nat.reduceAdd, Nat.reduceSub, Nat.reduceMul, Nat.reduceLeDiff, Int.reduceLE, Int.toNat_natCast, Int.natCast_nonneg, List.getElem?_map, List.length_map, Nat.zero_add, eq_self, Bool.not_true, Bool.not_false])
  have hle1 := LeH.up (o := .arr 83 20 v5 []) hle0 hb5
  simp -dsimp (maxDischargeDepth := 9) only [go_sem, Nat.reduceBEq, Nat.reduceLT, Nat.reduceAdd, Nat.reduceSub, Nat.reduceMul, Nat.reduceLeDiff, Int.reduceLE, Int.toNat_natCast, Int.natCast_nonneg, List.getElem?_map, List.length_map, Nat.zero_add, eq_self, Bool.not_true, Bool.not_false]
  refine svc_loop (fun _ : Unit => [(4, .ref b4 0), (5, .own b5 v5)]) (fun _ G => LeH H G ∧ G b4 = some (.var [.d (.slice []), .d (.int .i64 0), .d (.int .i64 0)]) ∧ G b5 = some (.arr 83 20 v5 [])) (fun _ => 0) () _ ⟨hle1, by simp -dsimp (maxDischargeDepth := 9) only [go_sem, Nat.reduceBEq, Nat.reduceLT, Nat.reduceAdd, Nat.reduceSub, Nat.reduceMul, Nat.reduceLeDiff, Int.reduceLE, Int.toNat_natCast, Int.natCast_nonneg, List.getElem?_map, List.length_map, Nat.zero_add, eq_self, Bool.not_true, Bool.not_false, e45], by simp -dsimp (maxDischargeDepth := 9) only [go_sem, Nat.reduceBEq, Nat.reduceLT, Nat.reduceAdd, Nat.reduceSub, Nat.reduceMul, Nat.reduceLeDiff, Int.reduceLE, Int.toNat_natCast, Int.natCast_nonneg, List.getElem?_map, List.length_map, Nat.zero_add, eq_self, Bool.not_true, Bool.not_false]⟩ (by simp -dsimp (maxDischargeDepth := 9) only [go_sem, Nat.reduceBEq, Nat.reduceLT, Nat.reduceAdd, Nat.reduceSub, Nat.reduceMul, Nat.reduceLeDiff, Int.reduceLE, Int.toNat_natCast, Int.natCast_nonneg, List.getElem?_map, List.length_map, Nat.zero_add, eq_self, Bool.not_true, Bool.not_false]) (.refl _) ?_
  rintro _ G ⟨hle, hG4, hG5⟩
  simp -dsimp (maxDischargeDepth := 9) only [go_sem, Nat.reduceBEq, Nat.reduceLT, Nat.reduceAdd, Nat.reduceSub, Nat.reduceMul, Nat.reduceLeDiff, Int.reduceLE, Int.toNat_natCast, Int.natCast_nonneg, List.getElem?_map, List.length_map, Nat.zero_add, eq_self, Bool.not_true, Bool.not_false]
  refine end_ok _ b4 hG4 _ ?_
  simp -dsimp (maxDischargeDepth := 9) only [go_sem, Nat.reduceBEq, Nat.reduceLT, Nat.reduceAdd, Nat.reduceSub, Nat.reduceMul, Nat.reduceLeDiff, Int.reduceLE, Int.toNat_natCast, Int.natCast_nonneg, List.getElem?_map, List.length_map, Nat.zero_add, eq_self, Bool.not_true, Bool.not_false]
  refine done_ok _ b4 hG4 _ ?_
  simp -dsimp (maxDischargeDepth := 9) only [go_sem, Nat.reduceBEq, Nat.reduceLT, Nat.reduceAdd, Nat.reduceSub, Nat.reduceMul, Nat.reduceLeDiff, Int.reduceLE, Int.toNat_natCast, Int.natCast_nonneg, List.getElem?_map, List.length_map, Nat.zero_add, eq_self, Bool.not_true, Bool.not_false]
  refine retW_tup [true, true] ?_
  simp -dsimp (maxDischargeDepth := 9) only [go_sem, Nat.reduceBEq, Nat.reduceLT, Nat.reduceAdd, Nat.reduceSub, Nat.reduceMul, Nat.reduceLeDiff, Int.reduceLE, Int.toNat_natCast, Int.natCast_nonneg, List.getElem?_map, List.length_map, Nat.zero_add, eq_self, Bool.not_true, Bool.not_false, hG5]
  refine retW_drop (G := H) ?_ (retW_is hK)
  exact leH_upd (LeH.free hle0 hb5) hle

theorem source3_ok {eb : Nat → Addr} (H : Heap) (K : A → Heap → Prop) (hK : K (.d (.str ⟨#[]⟩)) H) : ACall Tryd.prog (seatV eb) 27 [.d (.slice [])] H K := by
  refine ACall.by mixed fn27 (by simp) ?_
  conv in s27 => cbv
  refine svc_start ?_
  simp -dsimp (maxDischargeDepth := 9) only [go_sem, Nat.reduceBEq, Nat.reduceLT, Nat.reduceAdd, Nat.reduceSub, Nat.reduceMul, Nat.reduceLeDiff, Int.reduceLE, Int.toNat_natCast, Int.natCast_nonneg, List.getElem?_map, List.length_map, Nat.zero_add, eq_self, Bool.not_true, Bool.not_false]
  refine svc_loop (fun _ : Unit => [(3, .d (.str ⟨#[]⟩)), (6, .d (.slice [])), (7, .d (.int .i64 0)), (8, .d (.int .i64 0))]) (fun _ G => G = H) (fun _ => 0) () _ rfl (by simp -dsimp (maxDischargeDepth := 9) only [go_sem, Nat.reduceBEq, Nat.reduceLT, Nat.reduceAdd, Nat.reduceSub, Nat.reduceMul, Nat.reduceLeDiff, Int.reduceLE, Int.toNat_natCast, Int.natCast_nonneg, List.getElem?_map, List.length_map, Nat.zero_add, eq_self, Bool.not_true, Bool.not_false]) (.refl _) ?_
  rintro _ G rfl
  simp -dsimp (maxDischargeDepth := 9) only [go_sem, Nat.reduceBEq, Nat.reduceLT, Nat.reduceAdd, Nat.reduceSub, Nat.reduceMul, Nat.reduceLeDiff, Int.reduceLE, Int.toNat_natCast, Int.natCast_nonneg, List.getElem?_map, List.length_map, Nat.zero_add, eq_self, Bool.not_true, Bool.not_false]
  exact retW_is hK

theorem sameItems_ok {eb : Nat → Addr} (H : Heap) (K : A → Heap → Prop) (hK : K (.d (.bool true)) H) : ACall Tryd.prog (seatV eb) 28 [.d (.slice []), .d (.slice [])] H K := by
  refine ACall.by mixed fn28 (by simp) ?_
  conv in s28 => cbv
  refine svc_start ?_
  simp -dsimp (maxDischargeDepth := 9) only [go_sem, Nat.reduceBEq, Nat.reduceLT, Nat.reduceAdd, Nat.reduceSub, Nat.reduceMul, Nat.reduceLeDiff, Int.reduceLE, Int.toNat_natCast, Int.natCast_nonneg, List.getElem?_map, List.length_map, Nat.zero_add, eq_self, Bool.not_true, Bool.not_false]
  refine svc_loop (fun _ : Unit => [(0, .d (.slice [])), (1, .d (.slice [])), (12, .d (.int .i64 0)), (13, .d (.int .i64 0))]) (fun _ G => G = H) (fun _ => 0) () _ rfl (by simp -dsimp (maxDischargeDepth := 9) only [go_sem, Nat.reduceBEq, Nat.reduceLT, Nat.reduceAdd, Nat.reduceSub, Nat.reduceMul, Nat.reduceLeDiff, Int.reduceLE, Int.toNat_natCast, Int.natCast_nonneg, List.getElem?_map, List.length_map, Nat.zero_add, eq_self, Bool.not_true, Bool.not_false]) (.refl _) ?_
  rintro _ G rfl
  simp -dsimp (maxDischargeDepth := 9) only [go_sem, Nat.reduceBEq, Nat.reduceLT, Nat.reduceAdd, Nat.reduceSub, Nat.reduceMul, Nat.reduceLeDiff, Int.reduceLE, Int.toNat_natCast, Int.natCast_nonneg, List.getElem?_map, List.length_map, Nat.zero_add, eq_self, Bool.not_true, Bool.not_false]
  exact retW_is hK

end Go.Aug

/- Is a code in form: the walk. -/
namespace Go.Aug
open Go.Proofs
set_option maxRecDepth 100000
set_option linter.unusedSimpArgs false
attribute [local irreducible] hid andK letA onSome onVar onArr arrOnly onInt onBool onFunc onTup idxA ldV ldD addO ofPart appTo fillL slA srcK nilQ retW gif sgd sguard svc sops sdops sagain aopO aLoad aStore aBin aUn aConv aLen aIndexAddr aIndex aSlice aAppend aBuild aBuildSlice aMakeSlice aField aFieldOf aCallOp deepK deepL frzM putE newK newV growV ACall roundQ thenQ inBlockQ sret cnd szs nilC
attribute [local go_sem] Int.natCast_zero

structure FormOk (c : Cod) : Prop where
  types : c.types.length ≤ 8
  ins : c.ins.length = c.types.length
  regs : c.regs.length ≤ 512
  body : c.body.length ≤ 4096
  ok : ∀ i ∈ c.body, i.list.length ≤ 512 ∧ i.outs.length ≤ 512 ∧ i.live.length ≤ 512

structure CodTy (c : Cod) : Prop where
  types : ∃ l : List Ty, c.types = l.map Ty.d
  regs : ∃ l : List Ty, c.regs = l.map Ty.d

@[go_sem] theorem lt512_1 : decide ((512 : Int) < ((1 : Nat) : Int)) = false := by decide
@[go_sem] theorem lt01n : decide ((0 : Int) < ((1 : Nat) : Int)) = true := by decide
@[go_sem] theorem lt11n : decide (((1 : Nat) : Int) < ((1 : Nat) : Int)) = false := by decide
theorem toNat0 : Int.toNat 0 = 0 := rfl
theorem w01 : IntKind.i64.wrap ((0 : Int) + 1) = ((1 : Nat) : Int) := by rw [wrap64 (by omega) (by omega)]; rfl

set_option maxHeartbeats 4000000 in
theorem InForm_ok {eb : Nat → Addr} (H : Heap) (c : Cod) (hc : CodTy c) (K : A → Heap → Prop) (hK : ∀ b, (b = true → FormOk c) → K (.d (.bool b)) H) : ACall Tryd.prog (seatV eb) 17 [.d (.agg [.slice [], .slice [c.d]])] H K := by
  obtain ⟨name, types, ins, det, regs, body⟩ := c
  obtain ⟨⟨tys, hty⟩, ⟨rgs, hrg⟩⟩ := hc
  simp only at hty hrg
  subst hty hrg
  have hKf : K (.d (.bool false)) H := hK false (fun h => by cases h)
  refine ACall.by mixed fn17 (by simp) ?_
  conv in s17 => cbv
  refine svc_start ?_
  simp -dsimp (maxDischargeDepth := 9) only [go_sem, Nat.reduceBEq, Nat.reduceLT, Nat.reduceAdd, Nat.reduceSub, Nat.reduceMul, Nat.reduceLeDiff, Int.reduceLE, Int.toNat_natCast, Int.natCast_nonneg, List.getElem?_map, List.length_map, Nat.zero_add, eq_self, Bool.not_true, Bool.not_false]
  refine newK_intro (fun b1 hb1 hn1 hm1 => ?_)
  have hle1 : LeH H (upd H b1 (.var [.d (.slice []), .d (.slice [Cod.d ⟨name, tys.map Ty.d, ins, det, rgs.map Ty.d, body⟩])])) := leH_upd hb1 (.refl _)
  simp -dsimp (maxDischargeDepth := 9) only [go_sem, Nat.reduceBEq, Nat.reduceLT, Nat.reduceAdd, Nat.reduceSub, Nat.reduceMul, Nat.reduceLeDiff, Int.reduceLE, Int.toNat_natCast, Int.natCast_nonneg, List.getElem?_map, List.length_map, Nat.zero_add, eq_self, Bool.not_true, Bool.not_false]
  refine source3_ok _ _ ?_
  simp -dsimp (maxDischargeDepth := 9) only [go_sem, Nat.reduceBEq, Nat.reduceLT, Nat.reduceAdd, Nat.reduceSub, Nat.reduceMul, Nat.reduceLeDiff, Int.reduceLE, Int.toNat_natCast, Int.natCast_nonneg, List.getElem?_map, List.length_map, Nat.zero_add, eq_self, Bool.not_true, Bool.not_false]
  refine source2_ok _ _ ?_
  simp -dsimp (maxDischargeDepth := 9) only [go_sem, Nat.reduceBEq, Nat.reduceLT, Nat.reduceAdd, Nat.reduceSub, Nat.reduceMul, Nat.reduceLeDiff, Int.reduceLE, Int.toNat_natCast, Int.natCast_nonneg, List.getElem?_map, List.length_map, Nat.zero_add, eq_self, Bool.not_true, Bool.not_false]
  refine sameItems_ok _ _ ?_
  simp -dsimp (maxDischargeDepth := 9) only [go_sem, Nat.reduceBEq, Nat.reduceLT, Nat.reduceAdd, Nat.reduceSub, Nat.reduceMul, Nat.reduceLeDiff, Int.reduceLE, Int.toNat_natCast, Int.natCast_nonneg, List.getElem?_map, List.length_map, Nat.zero_add, eq_self, Bool.not_true, Bool.not_false]
  refine svc_loop (fun _ : Unit => [(1, .ref b1 0), (34, .d (.slice [])), (35, .d (.int .i64 0)), (36, .d (.int .i64 0))]) (fun _ G => LeH H G ∧ G b1 = some (.var [.d (.slice []), .d (.slice [Cod.d ⟨name, tys.map Ty.d, ins, det, rgs.map Ty.d, body⟩])])) (fun _ => 0) () _ ⟨hle1, by simp -dsimp (maxDischargeDepth := 9) only [go_sem, Nat.reduceBEq, Nat.reduceLT, Nat.reduceAdd, Nat.reduceSub, Nat.reduceMul, Nat.reduceLeDiff, Int.reduceLE, Int.toNat_natCast, Int.natCast_nonneg, List.getElem?_map, List.length_map, Nat.zero_add, eq_self, Bool.not_true, Bool.not_false]⟩ (by simp -dsimp (maxDischargeDepth := 9) only [go_sem, Nat.reduceBEq, Nat.reduceLT, Nat.reduceAdd, Nat.reduceSub, Nat.reduceMul, Nat.reduceLeDiff, Int.reduceLE, Int.toNat_natCast, Int.natCast_nonneg, List.getElem?_map, List.length_map, Nat.zero_add, eq_self, Bool.not_true, Bool.not_false]) (.refl _) ?_
  rintro _ G ⟨hle, hG1⟩
  simp -dsimp (maxDischargeDepth := 9) only [go_sem, Nat.reduceBEq, Nat.reduceLT, Nat.reduceAdd, Nat.reduceSub, Nat.reduceMul, Nat.reduceLeDiff, Int.reduceLE, Int.toNat_natCast, Int.natCast_nonneg, List.getElem?_map, List.length_map, Nat.zero_add, eq_self, Bool.not_true, Bool.not_false, hG1]
  refine svc_loop (fun k : Nat => [(45, .d (.slice [Cod.d ⟨name, tys.map Ty.d, ins, det, rgs.map Ty.d, body⟩])), (46, .d (.int .i64 ((1 : Nat) : Int))), (47, .d (.int .i64 k))])
    (fun k G => LeH H G ∧ k ≤ 1 ∧ (k = 1 → FormOk ⟨name, tys.map Ty.d, ins, det, rgs.map Ty.d, body⟩)) (fun k => 1 - k) 0 _ ⟨hle, by omega, fun h => by omega⟩ (by simp -dsimp (maxDischargeDepth := 9) only [go_sem, Nat.reduceBEq, Nat.reduceLT, Nat.reduceAdd, Nat.reduceSub, Nat.reduceMul, Nat.reduceLeDiff, Int.reduceLE, Int.toNat_natCast, Int.natCast_nonneg, List.getElem?_map, List.length_map, Nat.zero_add, eq_self, Bool.not_true, Bool.not_false]) (.refl _) ?_
  clear hle hG1
  rintro k G ⟨hle, hk, hf⟩
  rcases k with _ | k
  · simp -dsimp (maxDischargeDepth := 9) only [go_sem, Nat.reduceBEq, Nat.reduceLT, Nat.reduceAdd, Nat.reduceSub, Nat.reduceMul, Nat.reduceLeDiff, Int.reduceLE, Int.toNat_natCast, Int.natCast_nonneg, List.getElem?_map, List.length_map, Nat.zero_add, eq_self, Bool.not_true, Bool.not_false, Cod.d, Cod.cs, toNat0]
    refine newK_intro (fun b8 hb8 hn8 hm8 => ?_)
    simp -dsimp (maxDischargeDepth := 9) only [go_sem, Nat.reduceBEq, Nat.reduceLT, Nat.reduceAdd, Nat.reduceSub, Nat.reduceMul, Nat.reduceLeDiff, Int.reduceLE, Int.toNat_natCast, Int.natCast_nonneg, List.getElem?_map, List.length_map, Nat.zero_add, eq_self, Bool.not_true, Bool.not_false, upd_upd]
    have hle8 : LeH H G := hle
    refine (fun (key : (?T : Prop)) => ?main) ?rest
    case main =>
      repeat' (first | (refine gif_split (fun h => ?_) (fun h => ?_) <;> (try simp -dsimp (maxDischargeDepth := 9) only [go_sem, Nat.reduceBEq, Nat.reduceLT, Nat.reduceAdd, Nat.reduceSub, Nat.reduceMul, Nat.reduceLeDiff, Int.reduceLE, Int.toNat_natCast, Int.natCast_nonneg, List.getElem?_map, List.length_map, Nat.zero_add, eq_self, Bool.not_true, Bool.not_false, h, bools])) | (refine typs_ok _ tys ?_ _ (fun b => ?_); rotate_left; simp -dsimp (maxDischargeDepth := 9) only [go_sem, Nat.reduceBEq, Nat.reduceLT, Nat.reduceAdd, Nat.reduceSub, Nat.reduceMul, Nat.reduceLeDiff, Int.reduceLE, Int.toNat_natCast, Int.natCast_nonneg, List.getElem?_map, List.length_map, Nat.zero_add, eq_self, Bool.not_true, Bool.not_false]) | (refine typs_ok _ rgs ?_ _ (fun b => ?_); rotate_left; simp -dsimp (maxDischargeDepth := 9) only [go_sem, Nat.reduceBEq, Nat.reduceLT, Nat.reduceAdd, Nat.reduceSub, Nat.reduceMul, Nat.reduceLeDiff, Int.reduceLE, Int.toNat_natCast, Int.natCast_nonneg, List.getElem?_map, List.length_map, Nat.zero_add, eq_self, Bool.not_true, Bool.not_false]))
      all_goals try (refine retW_drop (G := H) ?_ (retW_is hKf); exact leH_upd (LeH.free hle8 hb8) hle8)
      all_goals try
        refine svc_loop (fun j : Nat => [(45, .d (.slice [Cod.d ⟨name, tys.map Ty.d, ins, det, rgs.map Ty.d, body⟩])), (46, .d (.int .i64 ((1 : Nat) : Int))), (47, .d (.int .i64 0)), (95, .d (.slice (body.map Ins.d))), (96, .d (.int .i64 body.length)), (97, .d (.int .i64 j))])
          (fun j G => LeH H G ∧ j ≤ body.length ∧ (tys.length ≤ 8 ∧ ins.length = tys.length ∧ rgs.length ≤ 512 ∧ body.length ≤ 4096) ∧ ∀ m i, m < j → body[m]? = some i → i.list.length ≤ 512 ∧ i.outs.length ≤ 512 ∧ i.live.length ≤ 512)
          (fun j => body.length - j) 0 H ⟨.refl _, Nat.zero_le _, ?_, fun m i h => absurd h (Nat.not_lt_zero _)⟩ ?_ ?_ ?_
        rotate_right
        · exact key
        · have h1 := of_decide_eq_false (show decide ((8 : Int) < tys.length) = false by assumption)
          have h2 : (!decide ((ins.length : Int) = tys.length)) = false := by assumption
          have h3 := of_decide_eq_false (show decide ((512 : Int) < rgs.length) = false by assumption)
          have h4 := of_decide_eq_false (show decide ((4096 : Int) < body.length) = false by assumption)
          have h5 : (ins.length : Int) = tys.length := by simpa using h2
          exact ⟨by omega, by omega, by omega, by omega⟩
        · simp -dsimp (maxDischargeDepth := 9) only [go_sem, Nat.reduceBEq, Nat.reduceLT, Nat.reduceAdd, Nat.reduceSub, Nat.reduceMul, Nat.reduceLeDiff, Int.reduceLE, Int.toNat_natCast, Int.natCast_nonneg, List.getElem?_map, List.length_map, Nat.zero_add, eq_self, Bool.not_true, Bool.not_false, Cod.d, Cod.cs, bools]
        · exact leH_upd (LeH.free hle8 hb8) hle8
      · have h1 := of_decide_eq_false (show decide ((512 : Int) < rgs.length) = false by assumption)
        omega
      · have h1 := of_decide_eq_false (show decide ((8 : Int) < tys.length) = false by assumption)
        omega
    case rest =>
      clear hle hf hle8
      rintro j G ⟨hle, hj, hfm, hall⟩
      simp -dsimp (maxDischargeDepth := 9) only [go_sem, Nat.reduceBEq, Nat.reduceLT, Nat.reduceAdd, Nat.reduceSub, Nat.reduceMul, Nat.reduceLeDiff, Int.reduceLE, Int.toNat_natCast, Int.natCast_nonneg, List.getElem?_map, List.length_map, Nat.zero_add, eq_self, Bool.not_true, Bool.not_false]
      refine gif_split (fun h1 => ?_) (fun h1 => ?_)
      · have hj' : j < body.length := by simpa using h1
        obtain ⟨i, hi⟩ : ∃ i, body[j]? = some i := ⟨body[j], by simp [hj']⟩
        have hw1 := wrapS (k := j) (by omega)
        simp -dsimp (maxDischargeDepth := 9) only [go_sem, Nat.reduceBEq, Nat.reduceLT, Nat.reduceAdd, Nat.reduceSub, Nat.reduceMul, Nat.reduceLeDiff, Int.reduceLE, Int.toNat_natCast, Int.natCast_nonneg, List.getElem?_map, List.length_map, Nat.zero_add, eq_self, Bool.not_true, Bool.not_false, hi, hj', Ins.d, Ins.cs]
        refine newK_intro (fun b10 hb10 hn10 hm10 => ?_)
        have hle10 : ∀ o, LeH H (upd G b10 o) := fun o => leH_upd (LeH.free hle hb10) hle
        simp -dsimp (maxDischargeDepth := 9) only [go_sem, Nat.reduceBEq, Nat.reduceLT, Nat.reduceAdd, Nat.reduceSub, Nat.reduceMul, Nat.reduceLeDiff, Int.reduceLE, Int.toNat_natCast, Int.natCast_nonneg, List.getElem?_map, List.length_map, Nat.zero_add, eq_self, Bool.not_true, Bool.not_false, upd_upd]
        repeat' (first | (refine gif_split (fun h => ?_) (fun h => ?_) <;> (try simp -dsimp (maxDischargeDepth := 9) only [go_sem, Nat.reduceBEq, Nat.reduceLT, Nat.reduceAdd, Nat.reduceSub, Nat.reduceMul, Nat.reduceLeDiff, Int.reduceLE, Int.toNat_natCast, Int.natCast_nonneg, List.getElem?_map, List.length_map, Nat.zero_add, eq_self, Bool.not_true, Bool.not_false, h, hw1])))
        all_goals try (refine retW_drop (G := H) ?_ (retW_is hKf); exact hle10 _)
        refine roundQ_next (j + 1) _ ⟨hle10 _, by omega, hfm, ?_⟩ (by omega) (by simp -dsimp (maxDischargeDepth := 9) only [go_sem, Nat.reduceBEq, Nat.reduceLT, Nat.reduceAdd, Nat.reduceSub, Nat.reduceMul, Nat.reduceLeDiff, Int.reduceLE, Int.toNat_natCast, Int.natCast_nonneg, List.getElem?_map, List.length_map, Nat.zero_add, eq_self, Bool.not_true, Bool.not_false, Cod.d, Cod.cs, bools]) (.refl _)
        intro m i' hm hi'
        rcases Nat.lt_succ_iff_lt_or_eq.1 hm with hm' | rfl
        · exact hall m i' hm' hi'
        · rw [hi] at hi'; cases hi'
          have h1 := of_decide_eq_false (show decide ((512 : Int) < i.list.length) = false by assumption)
          have h2 := of_decide_eq_false (show decide ((512 : Int) < i.outs.length) = false by assumption)
          have h3 := of_decide_eq_false (show decide ((512 : Int) < i.live.length) = false by assumption)
          exact ⟨by omega, by omega, by omega⟩
      · have hj' : j = body.length := by simp at h1; omega
        subst hj'
        simp -dsimp (maxDischargeDepth := 9) only [go_sem, Nat.reduceBEq, Nat.reduceLT, Nat.reduceAdd, Nat.reduceSub, Nat.reduceMul, Nat.reduceLeDiff, Int.reduceLE, Int.toNat_natCast, Int.natCast_nonneg, List.getElem?_map, List.length_map, Nat.zero_add, eq_self, Bool.not_true, Bool.not_false, w01]
        refine roundQ_next 1 G ⟨hle, by omega, fun _ => ⟨by simpa using hfm.1, by simpa using hfm.2.1, by simpa using hfm.2.2.1, hfm.2.2.2, ?_⟩⟩ (by omega) (by simp -dsimp (maxDischargeDepth := 9) only [go_sem, Nat.reduceBEq, Nat.reduceLT, Nat.reduceAdd, Nat.reduceSub, Nat.reduceMul, Nat.reduceLeDiff, Int.reduceLE, Int.toNat_natCast, Int.natCast_nonneg, List.getElem?_map, List.length_map, Nat.zero_add, eq_self, Bool.not_true, Bool.not_false, Cod.d, Cod.cs, bools]) (.refl _)
        intro i hi
        obtain ⟨m, hm⟩ := List.getElem?_of_mem hi
        exact hall m i (List.getElem?_eq_some_iff.1 hm).1 hm
  · obtain rfl : k = 0 := by omega
    simp -dsimp (maxDischargeDepth := 9) only [go_sem, Nat.reduceBEq, Nat.reduceLT, Nat.reduceAdd, Nat.reduceSub, Nat.reduceMul, Nat.reduceLeDiff, Int.reduceLE, Int.toNat_natCast, Int.natCast_nonneg, List.getElem?_map, List.length_map, Nat.zero_add, eq_self, Bool.not_true, Bool.not_false]
    exact retW_drop hle (retW_is (hK true (fun _ => hf rfl)))

theorem inForm_ok {eb : Nat → Addr} (H : Heap) (c : Cod) (hc : CodTy c) (K : A → Heap → Prop) (hK : ∀ b, (b = true → FormOk c ∧ c.body.length ≤ 200 ∧ c.regs.length ≤ 64) → K (.d (.bool b)) H) : ACall Tryd.prog (seatV eb) 7 [.d c.d] H K := by
  have hKf : K (.d (.bool false)) H := hK false (fun h => by cases h)
  refine ACall.by mixed fn7 (by simp) ?_
  conv in s7 => cbv
  refine svc_start ?_
  simp -dsimp (maxDischargeDepth := 9) only [go_sem, Nat.reduceBEq, Nat.reduceLT, Nat.reduceAdd, Nat.reduceSub, Nat.reduceMul, Nat.reduceLeDiff, Int.reduceLE, Int.toNat_natCast, Int.natCast_nonneg, List.getElem?_map, List.length_map, Nat.zero_add, eq_self, Bool.not_true, Bool.not_false, Cod.d, Cod.cs]
  refine newK_intro (fun b1 hb1 hn1 hm1 => ?_)
  have hle1 : LeH H (upd H b1 (.var (c.cs.map .d))) := leH_upd hb1 (.refl _)
  simp -dsimp (maxDischargeDepth := 9) only [go_sem, Nat.reduceBEq, Nat.reduceLT, Nat.reduceAdd, Nat.reduceSub, Nat.reduceMul, Nat.reduceLeDiff, Int.reduceLE, Int.toNat_natCast, Int.natCast_nonneg, List.getElem?_map, List.length_map, Nat.zero_add, eq_self, Bool.not_true, Bool.not_false]
  refine gif_split (fun h1 => ?_) (fun h1 => ?_)
  · simp -dsimp (maxDischargeDepth := 9) only [go_sem, Nat.reduceBEq, Nat.reduceLT, Nat.reduceAdd, Nat.reduceSub, Nat.reduceMul, Nat.reduceLeDiff, Int.reduceLE, Int.toNat_natCast, Int.natCast_nonneg, List.getElem?_map, List.length_map, Nat.zero_add, eq_self, Bool.not_true, Bool.not_false, h1]
    refine gif_split (fun h2 => ?_) (fun h2 => ?_)
    · simp -dsimp (maxDischargeDepth := 9) only [go_sem, Nat.reduceBEq, Nat.reduceLT, Nat.reduceAdd, Nat.reduceSub, Nat.reduceMul, Nat.reduceLeDiff, Int.reduceLE, Int.toNat_natCast, Int.natCast_nonneg, List.getElem?_map, List.length_map, Nat.zero_add, eq_self, Bool.not_true, Bool.not_false, h2]
      refine newV_intro (fun b2 v2 hb2 hn2 hm2 hv2 => ?_)
      simp -dsimp (maxDischargeDepth := 9) only [go_sem, Nat.reduceBEq, Nat.reduceLT, Nat.reduceAdd, Nat.reduceSub, Nat.reduceMul, Nat.reduceLeDiff, Int.reduceLE, Int.toNat_natCast, Int.natCast_nonneg, List.getElem?_map, List.length_map, Nat.zero_add, eq_self, Bool.not_true, Bool.not_false]
      refine ACall.frz [true] ?_
      simp -dsimp (maxDischargeDepth := 9) only [go_sem, Nat.reduceBEq, Nat.reduceLT, Nat.reduceAdd, Nat.reduceSub, Nat.reduceMul, Nat.reduceLeDiff, Int.reduceLE, Int.toNat_natCast, Int.natCast_nonneg, List.getElem?_map, List.length_map, Nat.zero_add, eq_self, Bool.not_true, Bool.not_false]
      refine ACall.le (G := H) ?_ (leH_upd (LeH.free hle1 hb2) (leH_upd (LeH.free hle1 hb2) hle1))
      refine InForm_ok H c hc _ (fun b hb => ?_)
      simp -dsimp (maxDischargeDepth := 9) only [go_sem, Nat.reduceBEq, Nat.reduceLT, Nat.reduceAdd, Nat.reduceSub, Nat.reduceMul, Nat.reduceLeDiff, Int.reduceLE, Int.toNat_natCast, Int.natCast_nonneg, List.getElem?_map, List.length_map, Nat.zero_add, eq_self, Bool.not_true, Bool.not_false]
      exact retW_is (hK b (fun h => ⟨hb h, by simp at h1; omega, by simp at h2; omega⟩))
    · simp -dsimp (maxDischargeDepth := 9) only [go_sem, Nat.reduceBEq, Nat.reduceLT, Nat.reduceAdd, Nat.reduceSub, Nat.reduceMul, Nat.reduceLeDiff, Int.reduceLE, Int.toNat_natCast, Int.natCast_nonneg, List.getElem?_map, List.length_map, Nat.zero_add, eq_self, Bool.not_true, Bool.not_false, h2]
      exact retW_drop hle1 (retW_is hKf)
  · simp -dsimp (maxDischargeDepth := 9) only [go_sem, Nat.reduceBEq, Nat.reduceLT, Nat.reduceAdd, Nat.reduceSub, Nat.reduceMul, Nat.reduceLeDiff, Int.reduceLE, Int.toNat_natCast, Int.natCast_nonneg, List.getElem?_map, List.length_map, Nat.zero_add, eq_self, Bool.not_true, Bool.not_false, h1]
    exact retW_drop hle1 (retW_is hKf)

end Go.Aug

/- The chapter's last example. -/
namespace Go.Aug
open Go.Proofs
set_option maxRecDepth 100000
set_option linter.unusedSimpArgs false
attribute [local irreducible] hid andK letA onSome onVar onArr arrOnly onInt onBool onFunc onTup idxA ldV ldD addO ofPart appTo fillL slA srcK nilQ retW gif sgd sguard svc sops sdops sagain aopO aLoad aStore aBin aUn aConv aLen aIndexAddr aIndex aSlice aAppend aBuild aBuildSlice aMakeSlice aField aFieldOf aCallOp deepK deepL frzM putE newK newV growV ACall roundQ thenQ inBlockQ sret cnd szs nilC
attribute [local go_sem] Int.natCast_zero

/- What is handed back out of a variable. -/
def resD : Option AObj → Nat → Option (Bool × Nat) → Option A
  | some (.var cs), off, some (true, n) => if off + n ≤ cs.length then some (aggN ((cs.drop off).take n)) else none
  | some (.var cs), off, some (false, _) => cs[off]?
  | _, _, _ => none
def resC : A → Heap → Option (Bool × Nat) → Option A
  | .ref b off, H, s => resD (H b) off s
  | _, _, _ => none
@[go_sem] theorem resOf_cell {P : Program} {V : Env} {N : Nat} {F : Nat → A} {H : Heap} {a : Nat} {t : TypeId} : resOf P V N F H (.cell a t) = resC (ev V N F (.tmp a)) H (tshape P t) := by
  simp only [resOf]
  generalize ev V N F (.tmp a) = x
  cases x with
  | ref b off =>
    simp only [resC]
    generalize H b = o
    cases o with
    | none => rfl
    | some o =>
      cases o with
      | var cs =>
        cases tshape P t with
        | none => rfl
        | some s => obtain ⟨g, n⟩ := s; cases g <;> rfl
      | _ => rfl
  | _ => rfl
@[go_sem] theorem resC_ref {b off : Nat} {H : Heap} {s : Option (Bool × Nat)} : resC (.ref b off) H s = resD (H b) off s := Eq.trans rfl rfl
@[go_sem] theorem resD_agg {cs : List A} {off n : Nat} (h : off + n ≤ cs.length) : resD (some (.var cs)) off (some (true, n)) = some (aggN ((cs.drop off).take n)) := if_pos h
@[go_sem] theorem resD_one {cs : List A} {off n : Nat} : resD (some (.var cs)) off (some (false, n)) = cs[off]? := Eq.trans rfl rfl

def exTy : Ty := .mk 1 ⟨#[]⟩ 0 []
def ex0 : Ins := ⟨2, 1, 0, 0, 5, 0, [], [], []⟩
def ex1 : Ins := ⟨1, 0, 1, 0, 0, 0, [], [], []⟩
def ex2 : Ins := ⟨13, 0, 0, 0, 0, 0, [], [], []⟩
def exC : Cod := ⟨⟨#[]⟩, [exTy.d], [false], 0, [exTy.d, exTy.d], [ex0, ex1, ex2]⟩

theorem exC_ok : CodOk exC := ⟨by decide, by intro i hi; simp [exC] at hi; rcases hi with rfl | rfl | rfl <;> exact ⟨by decide, by decide, by decide⟩, by decide, by decide⟩
theorem exC_known : ∀ k i, exC.body[k]? = some i → knownI exC k i = true := by
  intro k i hi
  rcases k with _ | _ | _ | k
  · simp [exC] at hi; subst hi; decide
  · simp [exC] at hi; subst hi; decide
  · simp [exC] at hi; subst hi; decide
  · simp [exC] at hi
theorem exC_good : ¬ flowBad exC := by
  rintro (h | h | h | ⟨k, i, hi, h⟩)
  · cases h
  · exact absurd h (by decide)
  · exact absurd h (by decide)
  · rw [exC_known k i hi] at h; cases h
theorem exC_flow : FlowIs exC (some [[], [], []]) := by
  refine .run _ exC_good ?_
  refine .step _ ⟨[[], [], []], [true, true, false], [1]⟩ [] 0 ex0 [] _ rfl rfl rfl (by simp [stopI, ex0, testsI]) rfl ?_
  refine .step _ ⟨[[], [], []], [true, true, true], [2]⟩ [] 1 ex1 [] _ rfl rfl rfl (by simp [stopI, ex1, testsI]) rfl ?_
  refine .step _ ⟨[[], [], []], [true, true, true], []⟩ [] 2 ex2 [] _ rfl rfl rfl (by simp [stopI, ex2, testsI]) rfl ?_
  exact .done _ rfl

theorem rise_ext : ∀ {l m : List Int}, l.Pairwise (· < ·) → m.Pairwise (· < ·) → (∀ x, x ∈ l ↔ x ∈ m) → l = m
  | [], [], _, _, _ => rfl
  | [], y :: m, _, _, h => by have := (h y).2 (by simp); simp at this
  | x :: l, [], _, _, h => by have := (h x).1 (by simp); simp at this
  | x :: l, y :: m, hl, hm, h => by
    rw [List.pairwise_cons] at hl hm
    have hxy : x = y := by
      rcases List.mem_cons.1 ((h x).1 (by simp)) with e | e
      · exact e
      · rcases List.mem_cons.1 ((h y).2 (by simp)) with e' | e'
        · exact e'.symm
        · have := hl.1 y e'; have := hm.1 x e; omega
    subst hxy
    congr 1
    refine rise_ext hl.2 hm.2 fun z => ?_
    have := h z
    simp only [List.mem_cons] at this
    constructor
    · intro hz
      rcases this.1 (.inr hz) with rfl | e
      · exact absurd (hl.1 _ hz) (by omega)
      · exact e
    · intro hz
      rcases this.2 (.inr hz) with rfl | e
      · exact absurd (hm.1 _ hz) (by omega)
      · exact e

theorem exC_live2 (r : Nat) : LiveAt exC [[], [], []] 2 r ↔ r = 0 := by
  have r2 : ReachAt exC.body 2 := .step (p := 1) (t := 2) (.step (p := 0) (t := 1) (.zero (by decide)) rfl (by decide) (by decide) (by decide)) rfl (by decide) (by decide) (by decide)
  constructor
  · intro h
    cases h with
    | reads _ i _ h hi hr => cases hi; have : (r : Int) ∈ [0] := hr; simp at this; omega
    | goes _ i k t but _ h hi ht => cases hi; have : ([] : List Int)[k]? = some (t : Int) := ht; simp at this
    | guard _ i g a tr t _ h hi hra => cases hi; cases hra
  · rintro rfl
    exact .reads 2 ex2 0 r2 rfl (by decide)
theorem exC_live1 (r : Nat) : LiveAt exC [[], [], []] 1 r ↔ r = 1 := by
  have r1 : ReachAt exC.body 1 := .step (p := 0) (t := 1) (.zero (by decide)) rfl (by decide) (by decide) (by decide)
  constructor
  · intro h
    cases h with
    | reads _ i _ h hi hr => cases hi; have : (r : Int) ∈ [1] := hr; simp at this; omega
    | goes _ i k t but _ h hi ht hb hl hr =>
      cases hi
      have h1 : ([2] : List Int)[k]? = some (t : Int) := ht
      have h2 : ([[0]] : List (List Int))[k]? = some but := hb
      rcases k with _ | k
      · simp at h1 h2
        subst h2
        obtain rfl : t = 2 := by omega
        have := (exC_live2 r).1 hl
        subst this
        simp at hr
      · simp at h1
    | guard _ i g a tr t _ h hi hra => cases hi; cases hra
  · rintro rfl
    exact .reads 1 ex1 1 r1 rfl (by decide)
theorem exC_live0 (r : Nat) : ¬ LiveAt exC [[], [], []] 0 r := by
  intro h
  cases h with
  | reads _ i _ h hi hr => cases hi; have : (r : Int) ∈ [] := hr; simp at this
  | goes _ i k t but _ h hi ht hb hl hr =>
    cases hi
    have h1 : ([1] : List Int)[k]? = some (t : Int) := ht
    have h2 : ([[1]] : List (List Int))[k]? = some but := hb
    rcases k with _ | k
    · simp at h1 h2
      subst h2
      obtain rfl : t = 1 := by omega
      have := (exC_live1 r).1 hl
      subst this
      simp at hr
    · simp at h1
  | guard _ i g a tr t _ h hi hra => cases hi; cases hra

theorem exC_is {ls : List (List Int)} {e : D} (h : LiveR exC ls e) : ls = [[], [1], [0]] ∧ e = .raw .nilIface := by
  cases h with
  | no h => exact absurd (h.det exC_flow) (by simp)
  | yes gs ls h hl =>
    refine ⟨?_, rfl⟩
    have := h.det exC_flow
    simp at this; subst this
    have h3 : ls.length = 3 := hl.len
    obtain ⟨a, b, c, rfl⟩ : ∃ a b c, ls = [a, b, c] := by
      match ls, h3 with
      | [a, b, c], _ => exact ⟨a, b, c, rfl⟩
    have ha : a = [] := rise_ext (hl.rise a (by simp)) .nil fun x => by
      rw [hl.mem 0 a rfl x]; simp [exC_live0]
    have hb : b = [1] := rise_ext (hl.rise b (by simp)) (by simp) fun x => by
      rw [hl.mem 1 b rfl x]; simp [exC_live1]
    have hc : c = [0] := rise_ext (hl.rise c (by simp)) (by simp) fun x => by
      rw [hl.mem 2 c rfl x]; simp [exC_live2]
    rw [ha, hb, hc]

theorem example_ok {eb : Nat → Addr} (H : Heap) (K : A → Heap → Prop) (hK : K (.d exC.d) H) : ACall Tryd.prog (seatV eb) 16 [] H K := by
  refine ACall.by mixed fn16 (by simp) ?_
  conv in s16 => cbv
  refine svc_start ?_
  simp -dsimp (maxDischargeDepth := 9) only [go_sem, Nat.reduceBEq, Nat.reduceLT, Nat.reduceAdd, Nat.reduceSub, Nat.reduceMul, Nat.reduceLeDiff, Int.reduceLE, Int.toNat_natCast, Int.natCast_nonneg, List.getElem?_map, List.length_map, Nat.zero_add, eq_self, Bool.not_true, Bool.not_false]
  refine newK_intro (fun b0 hb0 hn0 hm0 => ?_)
  have hle0 : ∀ o, LeH H (upd H b0 o) := fun o => leH_upd hb0 (.refl _)
  simp -dsimp (maxDischargeDepth := 9) only [go_sem, Nat.reduceBEq, Nat.reduceLT, Nat.reduceAdd, Nat.reduceSub, Nat.reduceMul, Nat.reduceLeDiff, Int.reduceLE, Int.toNat_natCast, Int.natCast_nonneg, List.getElem?_map, List.length_map, Nat.zero_add, eq_self, Bool.not_true, Bool.not_false]
  refine newV_intro (fun b1 v1 hb1 hn1 hm1 hv1 => ?_)
  have hb1H := (upd_eq_none.1 hb1).2
  simp -dsimp (maxDischargeDepth := 9) only [go_sem, Nat.reduceBEq, Nat.reduceLT, Nat.reduceAdd, Nat.reduceSub, Nat.reduceMul, Nat.reduceLeDiff, Int.reduceLE, Int.toNat_natCast, Int.natCast_nonneg, List.getElem?_map, List.length_map, Nat.zero_add, eq_self, Bool.not_true, Bool.not_false]
  refine newV_intro (fun b2 v2 hb2 hn2 hm2 hv2 => ?_)
  have hb2H := (upd_eq_none.1 (upd_eq_none.1 hb2).2).2
  simp -dsimp (maxDischargeDepth := 9) only [go_sem, Nat.reduceBEq, Nat.reduceLT, Nat.reduceAdd, Nat.reduceSub, Nat.reduceMul, Nat.reduceLeDiff, Int.reduceLE, Int.toNat_natCast, Int.natCast_nonneg, List.getElem?_map, List.length_map, Nat.zero_add, eq_self, Bool.not_true, Bool.not_false]
  refine newV_intro (fun b3 v3 hb3 hn3 hm3 hv3 => ?_)
  have hb3H := (upd_eq_none.1 (upd_eq_none.1 (upd_eq_none.1 hb3).2).2).2
  simp -dsimp (maxDischargeDepth := 9) only [go_sem, Nat.reduceBEq, Nat.reduceLT, Nat.reduceAdd, Nat.reduceSub, Nat.reduceMul, Nat.reduceLeDiff, Int.reduceLE, Int.toNat_natCast, Int.natCast_nonneg, List.getElem?_map, List.length_map, Nat.zero_add, eq_self, Bool.not_true, Bool.not_false]
  refine newV_intro (fun b4 v4 hb4 hn4 hm4 hv4 => ?_)
  have hb4H := (upd_eq_none.1 (upd_eq_none.1 (upd_eq_none.1 (upd_eq_none.1 hb4).2).2).2).2
  have e01 : eqn b0 b1 = false := hn1 b0 (by simp -dsimp (maxDischargeDepth := 9) only [go_sem, Nat.reduceBEq, Nat.reduceLT, Nat.reduceAdd, Nat.reduceSub, Nat.reduceMul, Nat.reduceLeDiff, Int.reduceLE, Int.toNat_natCast, Int.natCast_nonneg, List.getElem?_map, List.length_map, Nat.zero_add, eq_self, Bool.not_true, Bool.not_false])
  have e02 : eqn b0 b2 = false := hn2 b0 (by simp -dsimp (maxDischargeDepth := 9) only [go_sem, Nat.reduceBEq, Nat.reduceLT, Nat.reduceAdd, Nat.reduceSub, Nat.reduceMul, Nat.reduceLeDiff, Int.reduceLE, Int.toNat_natCast, Int.natCast_nonneg, List.getElem?_map, List.length_map, Nat.zero_add, eq_self, Bool.not_true, Bool.not_false, e01])
  have e12 : eqn b1 b2 = false := hn2 b1 (by simp -dsimp (maxDischargeDepth := 9) only [go_sem, Nat.reduceBEq, Nat.reduceLT, Nat.reduceAdd, Nat.reduceSub, Nat.reduceMul, Nat.reduceLeDiff, Int.reduceLE, Int.toNat_natCast, Int.natCast_nonneg, List.getElem?_map, List.length_map, Nat.zero_add, eq_self, Bool.not_true, Bool.not_false])
  have e03 : eqn b0 b3 = false := hn3 b0 (by simp -dsimp (maxDischargeDepth := 9) only [go_sem, Nat.reduceBEq, Nat.reduceLT, Nat.reduceAdd, Nat.reduceSub, Nat.reduceMul, Nat.reduceLeDiff, Int.reduceLE, Int.toNat_natCast, Int.natCast_nonneg, List.getElem?_map, List.length_map, Nat.zero_add, eq_self, Bool.not_true, Bool.not_false, e01, e02])
  have e13 : eqn b1 b3 = false := hn3 b1 (by simp -dsimp (maxDischargeDepth := 9) only [go_sem, Nat.reduceBEq, Nat.reduceLT, Nat.reduceAdd, Nat.reduceSub, Nat.reduceMul, Nat.reduceLeDiff, Int.reduceLE, Int.toNat_natCast, Int.natCast_nonneg, List.getElem?_map, List.length_map, Nat.zero_add, eq_self, Bool.not_true, Bool.not_false, e12])
  have e23 : eqn b2 b3 = false := hn3 b2 (by simp -dsimp (maxDischargeDepth := 9) only [go_sem, Nat.reduceBEq, Nat.reduceLT, Nat.reduceAdd, Nat.reduceSub, Nat.reduceMul, Nat.reduceLeDiff, Int.reduceLE, Int.toNat_natCast, Int.natCast_nonneg, List.getElem?_map, List.length_map, Nat.zero_add, eq_self, Bool.not_true, Bool.not_false])
  have e04 : eqn b0 b4 = false := hn4 b0 (by simp -dsimp (maxDischargeDepth := 9) only [go_sem, Nat.reduceBEq, Nat.reduceLT, Nat.reduceAdd, Nat.reduceSub, Nat.reduceMul, Nat.reduceLeDiff, Int.reduceLE, Int.toNat_natCast, Int.natCast_nonneg, List.getElem?_map, List.length_map, Nat.zero_add, eq_self, Bool.not_true, Bool.not_false, e01, e02, e03])
  have e14 : eqn b1 b4 = false := hn4 b1 (by simp -dsimp (maxDischargeDepth := 9) only [go_sem, Nat.reduceBEq, Nat.reduceLT, Nat.reduceAdd, Nat.reduceSub, Nat.reduceMul, Nat.reduceLeDiff, Int.reduceLE, Int.toNat_natCast, Int.natCast_nonneg, List.getElem?_map, List.length_map, Nat.zero_add, eq_self, Bool.not_true, Bool.not_false, e12, e13])
  have e24 : eqn b2 b4 = false := hn4 b2 (by simp -dsimp (maxDischargeDepth := 9) only [go_sem, Nat.reduceBEq, Nat.reduceLT, Nat.reduceAdd, Nat.reduceSub, Nat.reduceMul, Nat.reduceLeDiff, Int.reduceLE, Int.toNat_natCast, Int.natCast_nonneg, List.getElem?_map, List.length_map, Nat.zero_add, eq_self, Bool.not_true, Bool.not_false, e23])
  have e34 : eqn b3 b4 = false := hn4 b3 (by simp -dsimp (maxDischargeDepth := 9) only [go_sem, Nat.reduceBEq, Nat.reduceLT, Nat.reduceAdd, Nat.reduceSub, Nat.reduceMul, Nat.reduceLeDiff, Int.reduceLE, Int.toNat_natCast, Int.natCast_nonneg, List.getElem?_map, List.length_map, Nat.zero_add, eq_self, Bool.not_true, Bool.not_false])
  have s01 : eqn b1 b0 = false := eqn_ne (Ne.symm (of_decide_eq_false e01))
  have s02 : eqn b2 b0 = false := eqn_ne (Ne.symm (of_decide_eq_false e02))
  have s03 : eqn b3 b0 = false := eqn_ne (Ne.symm (of_decide_eq_false e03))
  have s04 : eqn b4 b0 = false := eqn_ne (Ne.symm (of_decide_eq_false e04))
  have s12 : eqn b2 b1 = false := eqn_ne (Ne.symm (of_decide_eq_false e12))
  have s13 : eqn b3 b1 = false := eqn_ne (Ne.symm (of_decide_eq_false e13))
  have s14 : eqn b4 b1 = false := eqn_ne (Ne.symm (of_decide_eq_false e14))
  have s23 : eqn b3 b2 = false := eqn_ne (Ne.symm (of_decide_eq_false e23))
  have s24 : eqn b4 b2 = false := eqn_ne (Ne.symm (of_decide_eq_false e24))
  have s34 : eqn b4 b3 = false := eqn_ne (Ne.symm (of_decide_eq_false e34))
  clear hn0 hm0 hn1 hm1 hn2 hm2 hn3 hm3 hn4 hm4
  simp -dsimp (maxDischargeDepth := 9) only [go_sem, Nat.reduceBEq, Nat.reduceLT, Nat.reduceAdd, Nat.reduceSub, Nat.reduceMul, Nat.reduceLeDiff, Int.reduceLE, Int.toNat_natCast, Int.natCast_nonneg, List.getElem?_map, List.length_map, Nat.zero_add, eq_self, Bool.not_true, Bool.not_false, e01, e02, e03, e04]
  refine retW_deep ?_
  simp -dsimp (maxDischargeDepth := 9) only [go_sem, Nat.reduceBEq, Nat.reduceLT, Nat.reduceAdd, Nat.reduceSub, Nat.reduceMul, Nat.reduceLeDiff, Int.reduceLE, Int.toNat_natCast, Int.natCast_nonneg, List.getElem?_map, List.length_map, Nat.zero_add, eq_self, Bool.not_true, Bool.not_false, e01, e02, e03, e04, e12, e13, e14, e23, e24, e34, s01, s02, s03, s04, s12, s13, s14, s23, s24, s34]
  have he : exC.d = .agg [.str ⟨#[]⟩, .slice [.agg [.int .i64 1, .str ⟨#[]⟩, .int .i64 0, .slice []]], .slice [.bool false], .int .i64 0, .slice [.agg [.int .i64 1, .str ⟨#[]⟩, .int .i64 0, .slice []], .agg [.int .i64 1, .str ⟨#[]⟩, .int .i64 0, .slice []]], .slice [ex0.d, ex1.d, ex2.d]] := by
    simp [Cod.d, Cod.cs, exC, exTy, Ty.d, bools]
  rw [he] at hK
  refine retW_drop (G := H) ?_ (retW_is hK)
  repeat (first | exact hle0 _ | refine leH_upd (by assumption) ?_)

theorem alive_ok {eb : Nat → Addr} (H : Heap) (K : A → Heap → Prop) (hK : K (.d (.bool true)) H) : ACall Tryd.prog (seatV eb) 6 [] H K := by
  refine ACall.by mixed fn6 (by simp) ?_
  conv in s6 => cbv
  refine svc_start ?_
  simp -dsimp (maxDischargeDepth := 9) only [go_sem, Nat.reduceBEq, Nat.reduceLT, Nat.reduceAdd, Nat.reduceSub, Nat.reduceMul, Nat.reduceLeDiff, Int.reduceLE, Int.toNat_natCast, Int.natCast_nonneg, List.getElem?_map, List.length_map, Nat.zero_add, eq_self, Bool.not_true, Bool.not_false]
  refine example_ok _ _ ?_
  simp -dsimp (maxDischargeDepth := 9) only [go_sem, Nat.reduceBEq, Nat.reduceLT, Nat.reduceAdd, Nat.reduceSub, Nat.reduceMul, Nat.reduceLeDiff, Int.reduceLE, Int.toNat_natCast, Int.natCast_nonneg, List.getElem?_map, List.length_map, Nat.zero_add, eq_self, Bool.not_true, Bool.not_false]
  refine live_ok _ exC exC_ok (by intro i hi; simp [exC] at hi; rcases hi with rfl | rfl | rfl <;> decide) (by decide) _ (fun ls e h => ?_)
  obtain ⟨rfl, rfl⟩ := exC_is h
  simp -dsimp (maxDischargeDepth := 9) only [go_sem, Nat.reduceBEq, Nat.reduceLT, Nat.reduceAdd, Nat.reduceSub, Nat.reduceMul, Nat.reduceLeDiff, Int.reduceLE, Int.toNat_natCast, Int.natCast_nonneg, List.getElem?_map, List.length_map, Nat.zero_add, eq_self, Bool.not_true, Bool.not_false]
  refine andK_split rfl ?_
  simp -dsimp (maxDischargeDepth := 9) only [go_sem, Nat.reduceBEq, Nat.reduceLT, Nat.reduceAdd, Nat.reduceSub, Nat.reduceMul, Nat.reduceLeDiff, Int.reduceLE, Int.toNat_natCast, Int.natCast_nonneg, List.getElem?_map, List.length_map, Nat.zero_add, eq_self, Bool.not_true, Bool.not_false]
  refine newV_intro (fun b1 v1 hb1 hn1 hm1 hv1 => ?_)
  simp -dsimp (maxDischargeDepth := 9) only [go_sem, Nat.reduceBEq, Nat.reduceLT, Nat.reduceAdd, Nat.reduceSub, Nat.reduceMul, Nat.reduceLeDiff, Int.reduceLE, Int.toNat_natCast, Int.natCast_nonneg, List.getElem?_map, List.length_map, Nat.zero_add, eq_self, Bool.not_true, Bool.not_false]
  refine newV_intro (fun b2 v2 hb2 hn2 hm2 hv2 => ?_)
  have e12 : eqn b1 b2 = false := hn2 b1 (by simp -dsimp (maxDischargeDepth := 9) only [go_sem, Nat.reduceBEq, Nat.reduceLT, Nat.reduceAdd, Nat.reduceSub, Nat.reduceMul, Nat.reduceLeDiff, Int.reduceLE, Int.toNat_natCast, Int.natCast_nonneg, List.getElem?_map, List.length_map, Nat.zero_add, eq_self, Bool.not_true, Bool.not_false])
  have e21 : eqn b2 b1 = false := eqn_ne (Ne.symm (of_decide_eq_false e12))
  have hb2H := (upd_eq_none.1 hb2).2
  simp -dsimp (maxDischargeDepth := 9) only [go_sem, Nat.reduceBEq, Nat.reduceLT, Nat.reduceAdd, Nat.reduceSub, Nat.reduceMul, Nat.reduceLeDiff, Int.reduceLE, Int.toNat_natCast, Int.natCast_nonneg, List.getElem?_map, List.length_map, Nat.zero_add, eq_self, Bool.not_true, Bool.not_false, e12, e21]
  refine newV_intro (fun b3 v3 hb3 hn3 hm3 hv3 => ?_)
  have hb3H := (upd_eq_none.1 (upd_eq_none.1 (upd_eq_none.1 (upd_eq_none.1 hb3).2).2).2).2
  simp -dsimp (maxDischargeDepth := 9) only [go_sem, Nat.reduceBEq, Nat.reduceLT, Nat.reduceAdd, Nat.reduceSub, Nat.reduceMul, Nat.reduceLeDiff, Int.reduceLE, Int.toNat_natCast, Int.natCast_nonneg, List.getElem?_map, List.length_map, Nat.zero_add, eq_self, Bool.not_true, Bool.not_false]
  refine ACall.frz [false, true] ?_
  simp -dsimp (maxDischargeDepth := 9) only [go_sem, Nat.reduceBEq, Nat.reduceLT, Nat.reduceAdd, Nat.reduceSub, Nat.reduceMul, Nat.reduceLeDiff, Int.reduceLE, Int.toNat_natCast, Int.natCast_nonneg, List.getElem?_map, List.length_map, Nat.zero_add, eq_self, Bool.not_true, Bool.not_false]
  refine ACall.le (G := H) ?_ (by repeat (first | exact LeH.refl _ | refine leH_upd (by assumption) ?_))
  have e : D.slice [.slice [], .slice [.int .i64 1], .slice [.int .i64 0]] = intss [[], [1], [0]] := rfl
  rw [e]
  refine sameLists_ok H [[], [1], [0]] [[], [1], [0]] (by decide) (by intro x hx; simp at hx; rcases hx with rfl | rfl | rfl <;> decide) _ ?_
  simp -dsimp (maxDischargeDepth := 9) only [go_sem, Nat.reduceBEq, Nat.reduceLT, Nat.reduceAdd, Nat.reduceSub, Nat.reduceMul, Nat.reduceLeDiff, Int.reduceLE, Int.toNat_natCast, Int.natCast_nonneg, List.getElem?_map, List.length_map, Nat.zero_add, eq_self, Bool.not_true, Bool.not_false]
  exact retW_is hK

end Go.Aug

/- LiveWays: what isn't live is written before it is read. -/
namespace Go.Aug
open Go.Proofs
set_option maxRecDepth 100000
set_option linter.unusedSimpArgs false
attribute [local irreducible] hid andK letA onSome onVar onArr arrOnly onInt onBool onFunc onTup idxA ldV ldD addO ofPart appTo fillL slA srcK nilQ retW gif sgd sguard svc sops sdops sagain aopO aLoad aStore aBin aUn aConv aLen aIndexAddr aIndex aSlice aAppend aBuild aBuildSlice aMakeSlice aField aFieldOf aCallOp deepK deepL frzM putE newK newV growV ACall roundQ thenQ inBlockQ sret cnd szs nilC
attribute [local go_sem] Int.natCast_zero

structure Way where
  code : Cod
  which : List Int
  reg : Int
  frm : Int
def Way.cs (x : Way) : List D := x.code.cs ++ [ints x.which, .int .i64 x.reg, .int .i64 x.frm]
def Way.d (x : Way) : D := .agg x.cs

theorem CodOk.of {c : Cod} (h : FormOk c) (h2 : c.body.length ≤ 200 ∧ c.regs.length ≤ 64) : CodOk c ∧ ∀ i ∈ c.body, (readsI c i).length < 1099511627776 := by
  have h8 := h.types
  have hin := h.ins
  have hok : ∀ i ∈ c.body, i.ok := fun i hi => by
    obtain ⟨h1, h2, h3⟩ := h.ok i hi
    exact ⟨by omega, by omega, by omega⟩
  refine ⟨⟨by omega, hok, by omega, by omega⟩, ?_⟩
  intro i hi
  obtain ⟨h1, h2, h3⟩ := h.ok i hi
  have := outsTo_length c.ins c.ins.length
  unfold readsI outs; repeat' split
  all_goals first | omega | (simp; omega) | simp

theorem and1i (v : Int) : bits .and .i64 v 1 = v % 2 := by
  show IntKind.i64.wrap ((BitVec.ofInt 64 v &&& BitVec.ofInt 64 1).toNat : Int) = _
  have h1 : (BitVec.ofInt 64 v &&& BitVec.ofInt 64 1).toNat = (BitVec.ofInt 64 v).toNat % 2 := by
    rw [BitVec.toNat_and]
    have : (BitVec.ofInt 64 1).toNat = 1 := rfl
    rw [this, Nat.and_one_is_mod]
  have h2 : ((BitVec.ofInt 64 v).toNat : Int) = v % 18446744073709551616 := by
    rw [BitVec.toNat_ofInt]; omega
  rw [h1, wrap64 (by omega) (by omega)]
  omega

theorem rise_length : ∀ {l : List Int}, l.Pairwise (· < ·) → ∀ (a b : Int), (∀ x ∈ l, a ≤ x ∧ x < b) → (l.length : Int) ≤ max 0 (b - a)
  | [], _, _, _, _ => by simp; omega
  | x :: l, h, a, b, hb => by
    rw [List.pairwise_cons] at h
    have h1 := hb x (by simp)
    have := rise_length h.2 (x + 1) b (fun y hy => by
      have := h.1 y hy
      have := hb y (by simp [hy])
      omega)
    simp only [List.length_cons]
    omega

theorem LiveAt.lt {c : Cod} {gs : List (List Int)} (hkn : ∀ k i, c.body[k]? = some i → knownI c k i = true) {p r : Nat} (h : LiveAt c gs p r) : r < c.regs.length := by
  induction h with
  | reads p i r h hi hr =>
    have := (known_reads (hkn p i hi) _ hr).2
    omega
  | goes p i k t but r h hi ht hb _ hr ih => exact ih
  | guard p i g a tr t r h hi hra hg ha htr ht _ hr ih => exact ih

set_option maxHeartbeats 4000000 in
theorem liveWays_ok {eb : Nat → Addr} (H : Heap) (x : Way) (hty : CodTy x.code) (K : A → Heap → Prop) (hK : K (.d (.bool true)) H) : ACall Tryd.prog (seatV eb) 3 [.d x.d] H K := by
  refine ACall.by mixed fn3 (by simp) ?_
  conv in s3 => cbv
  refine svc_start ?_
  simp -dsimp (maxDischargeDepth := 9) only [go_sem, Nat.reduceBEq, Nat.reduceLT, Nat.reduceAdd, Nat.reduceSub, Nat.reduceMul, Nat.reduceLeDiff, Int.reduceLE, Int.toNat_natCast, Int.natCast_nonneg, List.getElem?_map, List.length_map, Nat.zero_add, eq_self, Bool.not_true, Bool.not_false, Way.d, Way.cs, Cod.cs]
  refine newK_intro (fun b1 hb1 hn1 hm1 => ?_)
  have hle1 : ∀ o, LeH H (upd H b1 o) := fun o => leH_upd hb1 (.refl _)
  simp -dsimp (maxDischargeDepth := 9) only [go_sem, Nat.reduceBEq, Nat.reduceLT, Nat.reduceAdd, Nat.reduceSub, Nat.reduceMul, Nat.reduceLeDiff, Int.reduceLE, Int.toNat_natCast, Int.natCast_nonneg, List.getElem?_map, List.length_map, Nat.zero_add, eq_self, Bool.not_true, Bool.not_false]
  refine alive_ok _ _ ?_
  simp -dsimp (maxDischargeDepth := 9) only [go_sem, Nat.reduceBEq, Nat.reduceLT, Nat.reduceAdd, Nat.reduceSub, Nat.reduceMul, Nat.reduceLeDiff, Int.reduceLE, Int.toNat_natCast, Int.natCast_nonneg, List.getElem?_map, List.length_map, Nat.zero_add, eq_self, Bool.not_true, Bool.not_false]
  refine inForm_ok _ x.code hty _ (fun bf hbf => ?_)
  simp -dsimp (maxDischargeDepth := 9) only [go_sem, Nat.reduceBEq, Nat.reduceLT, Nat.reduceAdd, Nat.reduceSub, Nat.reduceMul, Nat.reduceLeDiff, Int.reduceLE, Int.toNat_natCast, Int.natCast_nonneg, List.getElem?_map, List.length_map, Nat.zero_add, eq_self, Bool.not_true, Bool.not_false]
  cases bf with
  | false =>
    simp -dsimp (maxDischargeDepth := 9) only [go_sem, Nat.reduceBEq, Nat.reduceLT, Nat.reduceAdd, Nat.reduceSub, Nat.reduceMul, Nat.reduceLeDiff, Int.reduceLE, Int.toNat_natCast, Int.natCast_nonneg, List.getElem?_map, List.length_map, Nat.zero_add, eq_self, Bool.not_true, Bool.not_false]
    exact retW_drop (hle1 _) (retW_is hK)
  | true =>
    obtain ⟨hform, hsmall⟩ := hbf rfl
    obtain ⟨hcok, hrd⟩ := CodOk.of hform hsmall
    simp -dsimp (maxDischargeDepth := 9) only [go_sem, Nat.reduceBEq, Nat.reduceLT, Nat.reduceAdd, Nat.reduceSub, Nat.reduceMul, Nat.reduceLeDiff, Int.reduceLE, Int.toNat_natCast, Int.natCast_nonneg, List.getElem?_map, List.length_map, Nat.zero_add, eq_self, Bool.not_true, Bool.not_false]
    refine gif_split (fun h1 => ?_) (fun h1 => ?_)
    · simp -dsimp (maxDischargeDepth := 9) only [go_sem, Nat.reduceBEq, Nat.reduceLT, Nat.reduceAdd, Nat.reduceSub, Nat.reduceMul, Nat.reduceLeDiff, Int.reduceLE, Int.toNat_natCast, Int.natCast_nonneg, List.getElem?_map, List.length_map, Nat.zero_add, eq_self, Bool.not_true, Bool.not_false, h1]
      exact retW_drop (hle1 _) (retW_is hK)
    · simp -dsimp (maxDischargeDepth := 9) only [go_sem, Nat.reduceBEq, Nat.reduceLT, Nat.reduceAdd, Nat.reduceSub, Nat.reduceMul, Nat.reduceLeDiff, Int.reduceLE, Int.toNat_natCast, Int.natCast_nonneg, List.getElem?_map, List.length_map, Nat.zero_add, eq_self, Bool.not_true, Bool.not_false, h1]
      refine gif_split (fun h2 => ?_) (fun h2 => ?_)
      · simp -dsimp (maxDischargeDepth := 9) only [go_sem, Nat.reduceBEq, Nat.reduceLT, Nat.reduceAdd, Nat.reduceSub, Nat.reduceMul, Nat.reduceLeDiff, Int.reduceLE, Int.toNat_natCast, Int.natCast_nonneg, List.getElem?_map, List.length_map, Nat.zero_add, eq_self, Bool.not_true, Bool.not_false, h2]
        exact retW_drop (hle1 _) (retW_is hK)
      · simp -dsimp (maxDischargeDepth := 9) only [go_sem, Nat.reduceBEq, Nat.reduceLT, Nat.reduceAdd, Nat.reduceSub, Nat.reduceMul, Nat.reduceLeDiff, Int.reduceLE, Int.toNat_natCast, Int.natCast_nonneg, List.getElem?_map, List.length_map, Nat.zero_add, eq_self, Bool.not_true, Bool.not_false, h2]
        refine live_ok _ x.code hcok hrd (by omega) _ (fun ls e hL => ?_)
        simp -dsimp (maxDischargeDepth := 9) only [go_sem, Nat.reduceBEq, Nat.reduceLT, Nat.reduceAdd, Nat.reduceSub, Nat.reduceMul, Nat.reduceLeDiff, Int.reduceLE, Int.toNat_natCast, Int.natCast_nonneg, List.getElem?_map, List.length_map, Nat.zero_add, eq_self, Bool.not_true, Bool.not_false]
        cases hL with
        | no hf =>
          simp -dsimp (maxDischargeDepth := 9) only [go_sem, Nat.reduceBEq, Nat.reduceLT, Nat.reduceAdd, Nat.reduceSub, Nat.reduceMul, Nat.reduceLeDiff, Int.reduceLE, Int.toNat_natCast, Int.natCast_nonneg, List.getElem?_map, List.length_map, Nat.zero_add, eq_self, Bool.not_true, Bool.not_false]
          exact retW_drop (hle1 _) (retW_is hK)
        | yes gs ls hf hL =>
          obtain ⟨hgood, hgl, hgt⟩ := hf.good
          have hkn := flowBad_known hgood
          have hns := hcok.n
          simp -dsimp (maxDischargeDepth := 9) only [go_sem, Nat.reduceBEq, Nat.reduceLT, Nat.reduceAdd, Nat.reduceSub, Nat.reduceMul, Nat.reduceLeDiff, Int.reduceLE, Int.toNat_natCast, Int.natCast_nonneg, List.getElem?_map, List.length_map, Nat.zero_add, eq_self, Bool.not_true, Bool.not_false]
          refine andK_split rfl ?_
          simp -dsimp (maxDischargeDepth := 9) only [go_sem, Nat.reduceBEq, Nat.reduceLT, Nat.reduceAdd, Nat.reduceSub, Nat.reduceMul, Nat.reduceLeDiff, Int.reduceLE, Int.toNat_natCast, Int.natCast_nonneg, List.getElem?_map, List.length_map, Nat.zero_add, eq_self, Bool.not_true, Bool.not_false]
          refine reached_ok _ x.code hcok.n _ (fun rch hrl hrch => ?_)
          simp -dsimp (maxDischargeDepth := 9) only [go_sem, Nat.reduceBEq, Nat.reduceLT, Nat.reduceAdd, Nat.reduceSub, Nat.reduceMul, Nat.reduceLeDiff, Int.reduceLE, Int.toNat_natCast, Int.natCast_nonneg, List.getElem?_map, List.length_map, Nat.zero_add, eq_self, Bool.not_true, Bool.not_false]
          refine gif_split (fun h3 => ?_) (fun h3 => ?_)
          · simp -dsimp (maxDischargeDepth := 9) only [go_sem, Nat.reduceBEq, Nat.reduceLT, Nat.reduceAdd, Nat.reduceSub, Nat.reduceMul, Nat.reduceLeDiff, Int.reduceLE, Int.toNat_natCast, Int.natCast_nonneg, List.getElem?_map, List.length_map, Nat.zero_add, eq_self, Bool.not_true, Bool.not_false, h3]
            exact retW_drop (hle1 _) (retW_is hK)
          have h3' : 0 ≤ x.frm := by simpa using h3
          simp -dsimp (maxDischargeDepth := 9) only [go_sem, Nat.reduceBEq, Nat.reduceLT, Nat.reduceAdd, Nat.reduceSub, Nat.reduceMul, Nat.reduceLeDiff, Int.reduceLE, Int.toNat_natCast, Int.natCast_nonneg, List.getElem?_map, List.length_map, Nat.zero_add, eq_self, Bool.not_true, Bool.not_false, h3]
          refine gif_split (fun h4 => ?_) (fun h4 => ?_)
          · simp -dsimp (maxDischargeDepth := 9) only [go_sem, Nat.reduceBEq, Nat.reduceLT, Nat.reduceAdd, Nat.reduceSub, Nat.reduceMul, Nat.reduceLeDiff, Int.reduceLE, Int.toNat_natCast, Int.natCast_nonneg, List.getElem?_map, List.length_map, Nat.zero_add, eq_self, Bool.not_true, Bool.not_false, h4]
            exact retW_drop (hle1 _) (retW_is hK)
          obtain ⟨at0, hat0⟩ : ∃ n : Nat, x.frm = n := ⟨x.frm.toNat, by omega⟩
          have hl0 : at0 < x.code.body.length := by simp at h4; omega
          obtain ⟨y, hy⟩ : ∃ y, rch[at0]? = some y := ⟨rch[at0]'(by omega), by simp [hrl, hl0]⟩
          obtain ⟨l, hl⟩ : ∃ y, ls[at0]? = some y := ⟨ls[at0]'(by rw [hL.len]; exact hl0), by simp [hL.len, hl0]⟩
          rw [hat0] at h3 h4
          have hlls : at0 < ls.length := by rw [hL.len]; exact hl0
          have hlr : at0 < rch.length := by omega
          simp -dsimp (maxDischargeDepth := 9) only [go_sem, Nat.reduceBEq, Nat.reduceLT, Nat.reduceAdd, Nat.reduceSub, Nat.reduceMul, Nat.reduceLeDiff, Int.reduceLE, Int.toNat_natCast, Int.natCast_nonneg, List.getElem?_map, List.length_map, Nat.zero_add, eq_self, Bool.not_true, Bool.not_false, hat0, h3, h4, bools, hy, hlr]
          cases y with
          | false =>
            simp -dsimp (maxDischargeDepth := 9) only [go_sem, Nat.reduceBEq, Nat.reduceLT, Nat.reduceAdd, Nat.reduceSub, Nat.reduceMul, Nat.reduceLeDiff, Int.reduceLE, Int.toNat_natCast, Int.natCast_nonneg, List.getElem?_map, List.length_map, Nat.zero_add, eq_self, Bool.not_true, Bool.not_false]
            exact retW_drop (hle1 _) (retW_is hK)
          | true =>
            have hr0 := (hrch at0).1 hy
            simp -dsimp (maxDischargeDepth := 9) only [go_sem, Nat.reduceBEq, Nat.reduceLT, Nat.reduceAdd, Nat.reduceSub, Nat.reduceMul, Nat.reduceLeDiff, Int.reduceLE, Int.toNat_natCast, Int.natCast_nonneg, List.getElem?_map, List.length_map, Nat.zero_add, eq_self, Bool.not_true, Bool.not_false, intss, hl, hlls]
            have hll : l.length < 1099511627776 := by
              have := rise_length (hL.rise l (List.mem_of_getElem? hl)) 0 64 (fun y hy => by
                obtain ⟨r, rfl, hr⟩ := (hL.mem at0 l hl y).1 hy
                have := hr.lt hkn
                omega)
              omega
            refine in_ok _ l x.reg hll _ ?_
            simp -dsimp (maxDischargeDepth := 9) only [go_sem, Nat.reduceBEq, Nat.reduceLT, Nat.reduceAdd, Nat.reduceSub, Nat.reduceMul, Nat.reduceLeDiff, Int.reduceLE, Int.toNat_natCast, Int.natCast_nonneg, List.getElem?_map, List.length_map, Nat.zero_add, eq_self, Bool.not_true, Bool.not_false]
            refine gif_split (fun h5 => ?_) (fun h5 => ?_)
            · simp -dsimp (maxDischargeDepth := 9) only [go_sem, Nat.reduceBEq, Nat.reduceLT, Nat.reduceAdd, Nat.reduceSub, Nat.reduceMul, Nat.reduceLeDiff, Int.reduceLE, Int.toNat_natCast, Int.natCast_nonneg, List.getElem?_map, List.length_map, Nat.zero_add, eq_self, Bool.not_true, Bool.not_false]
              exact retW_drop (hle1 _) (retW_is hK)
            have hnl : ∀ r : Nat, x.reg = r → ¬ LiveAt x.code gs at0 r := by
              intro r hr hlv
              have : x.reg ∈ l := (hL.mem at0 l hl x.reg).2 ⟨r, hr, hlv⟩
              rw [List.contains_iff_mem.2 this] at h5; cases h5
            simp -dsimp (maxDischargeDepth := 9) only [go_sem, Nat.reduceBEq, Nat.reduceLT, Nat.reduceAdd, Nat.reduceSub, Nat.reduceMul, Nat.reduceLeDiff, Int.reduceLE, Int.toNat_natCast, Int.natCast_nonneg, List.getElem?_map, List.length_map, Nat.zero_add, eq_self, Bool.not_true, Bool.not_false]
            have hcs : [A.d (.str x.code.name), .d (.slice x.code.types), .d (bools x.code.ins), .d (.int .i64 x.code.det), .d (.slice x.code.regs), .d (.slice (x.code.body.map Ins.d)), .d (ints x.which), .d (.int .i64 x.reg), .d (.int .i64 x.frm)] = x.cs.map A.d := rfl
            refine svc_loop (X := Nat × Nat) (fun p => [(1, .ref b1 0), (6, .d (.int .i64 p.2)), (7, .d (.int .i64 p.1))])
              (fun p G => p.1 ≤ 400 ∧ LeH H G ∧ G b1 = some (.var (x.cs.map .d)) ∧ ReachAt x.code.body p.2 ∧ p.2 < x.code.body.length ∧ ∀ r : Nat, x.reg = r → ¬ LiveAt x.code gs p.2 r) (fun p => 400 - p.1) (0, at0) _ ⟨by omega, hle1 _, by rw [upd_same, ← hat0]; rfl, hr0, hl0, hnl⟩ (by simp -dsimp (maxDischargeDepth := 9) only [go_sem, Nat.reduceBEq, Nat.reduceLT, Nat.reduceAdd, Nat.reduceSub, Nat.reduceMul, Nat.reduceLeDiff, Int.reduceLE, Int.toNat_natCast, Int.natCast_nonneg, List.getElem?_map, List.length_map, Nat.zero_add, eq_self, Bool.not_true, Bool.not_false]) (.refl _) ?_
            clear hnl hr0 hl0 hlls hlr hy hl h5 hll h3 h4 hat0 h3' hb1 hn1 hm1
            rintro ⟨k, p⟩ G ⟨hk, hle, hG, hrp, hpl, hnl⟩
            simp only at hk hle hG hrp hpl hnl
            have hG' : G b1 = some (.var [.d (.str x.code.name), .d (.slice x.code.types), .d (bools x.code.ins), .d (.int .i64 x.code.det), .d (.slice x.code.regs), .d (.slice (x.code.body.map Ins.d)), .d (ints x.which), .d (.int .i64 x.reg), .d (.int .i64 x.frm)]) := hG
            simp -dsimp (maxDischargeDepth := 9) only [go_sem, Nat.reduceBEq, Nat.reduceLT, Nat.reduceAdd, Nat.reduceSub, Nat.reduceMul, Nat.reduceLeDiff, Int.reduceLE, Int.toNat_natCast, Int.natCast_nonneg, List.getElem?_map, List.length_map, Nat.zero_add, eq_self, Bool.not_true, Bool.not_false]
            refine gif_split (fun h6 => ?_) (fun h6 => ?_)
            · have hk' : k < 400 := by simp at h6; omega
              have hw1 := wrapS (k := k) (by omega)
              obtain ⟨i, hi⟩ : ∃ i, x.code.body[p]? = some i := ⟨x.code.body[p], by simp [hpl]⟩
              have hki := hkn p i hi
              have hiok := hcok.body i (List.mem_of_getElem? hi)
              simp -dsimp (maxDischargeDepth := 9) only [go_sem, Nat.reduceBEq, Nat.reduceLT, Nat.reduceAdd, Nat.reduceSub, Nat.reduceMul, Nat.reduceLeDiff, Int.reduceLE, Int.toNat_natCast, Int.natCast_nonneg, List.getElem?_map, List.length_map, Nat.zero_add, eq_self, Bool.not_true, Bool.not_false, hG', hi, hpl, Ins.d, Ins.cs]
              refine newK_intro (fun b8 hb8 hn8 hm8 => ?_)
              have e18 : eqn b1 b8 = false := hn8 b1 (by rw [hG']; rfl)
              have hleG : LeH H (upd G b8 (.var (i.cs.map .d))) := leH_upd (LeH.free hle hb8) hle
              have hG1 : upd G b8 (.var (i.cs.map .d)) b1 = some (.var (x.cs.map .d)) := by rw [upd_ne _ _ (of_decide_eq_false e18)]; exact hG
              simp -dsimp (maxDischargeDepth := 9) only [go_sem, Nat.reduceBEq, Nat.reduceLT, Nat.reduceAdd, Nat.reduceSub, Nat.reduceMul, Nat.reduceLeDiff, Int.reduceLE, Int.toNat_natCast, Int.natCast_nonneg, List.getElem?_map, List.length_map, Nat.zero_add, eq_self, Bool.not_true, Bool.not_false, upd_upd, e18, hG']
              refine reads_ok _ x.code i hiok hcok.ins _ ?_
              simp -dsimp (maxDischargeDepth := 9) only [go_sem, Nat.reduceBEq, Nat.reduceLT, Nat.reduceAdd, Nat.reduceSub, Nat.reduceMul, Nat.reduceLeDiff, Int.reduceLE, Int.toNat_natCast, Int.natCast_nonneg, List.getElem?_map, List.length_map, Nat.zero_add, eq_self, Bool.not_true, Bool.not_false, e18, hG']
              refine in_ok _ (readsI x.code i) x.reg (hrd i (List.mem_of_getElem? hi)) _ ?_
              simp -dsimp (maxDischargeDepth := 9) only [go_sem, Nat.reduceBEq, Nat.reduceLT, Nat.reduceAdd, Nat.reduceSub, Nat.reduceMul, Nat.reduceLeDiff, Int.reduceLE, Int.toNat_natCast, Int.natCast_nonneg, List.getElem?_map, List.length_map, Nat.zero_add, eq_self, Bool.not_true, Bool.not_false]
              refine gif_split (fun h7 => ?_) (fun h7 => ?_)
              · exfalso
                have hm : x.reg ∈ readsI x.code i := List.contains_iff_mem.1 h7
                obtain ⟨hr0, hr1⟩ := known_reads hki _ hm
                obtain ⟨r, hr⟩ : ∃ r : Nat, x.reg = r := ⟨x.reg.toNat, by omega⟩
                exact hnl r hr (.reads p i r hrp hi (by rw [← hr]; exact hm))
              · simp -dsimp (maxDischargeDepth := 9) only [go_sem, Nat.reduceBEq, Nat.reduceLT, Nat.reduceAdd, Nat.reduceSub, Nat.reduceMul, Nat.reduceLeDiff, Int.reduceLE, Int.toNat_natCast, Int.natCast_nonneg, List.getElem?_map, List.length_map, Nat.zero_add, eq_self, Bool.not_true, Bool.not_false, e18, hG']
                refine goes_ok _ (p : Int) (by omega) (by omega) i _ ?_
                simp -dsimp (maxDischargeDepth := 9) only [go_sem, Nat.reduceBEq, Nat.reduceLT, Nat.reduceAdd, Nat.reduceSub, Nat.reduceMul, Nat.reduceLeDiff, Int.reduceLE, Int.toNat_natCast, Int.natCast_nonneg, List.getElem?_map, List.length_map, Nat.zero_add, eq_self, Bool.not_true, Bool.not_false]
                refine gif_split (fun h8 => ?_) (fun h8 => ?_)
                · simp -dsimp (maxDischargeDepth := 9) only [go_sem, Nat.reduceBEq, Nat.reduceLT, Nat.reduceAdd, Nat.reduceSub, Nat.reduceMul, Nat.reduceLeDiff, Int.reduceLE, Int.toNat_natCast, Int.natCast_nonneg, List.getElem?_map, List.length_map, Nat.zero_add, eq_self, Bool.not_true, Bool.not_false]
                  exact retW_drop hleG (retW_is hK)
                have hgpos : 0 < (goesI p i).length := by have := of_decide_eq_false h8; omega
                have hgl2 := goesI_length p i
                have hwpos : 0 < x.which.length := by have := of_decide_eq_false h1; omega
                have hkm : ((k : Int)).tmod (x.which.length : Int) = ((k % x.which.length : Nat) : Int) := by
                  rw [Int.tmod_eq_emod_of_nonneg (Int.natCast_nonneg k)]; rfl
                have hkml : k % x.which.length < x.which.length := Nat.mod_lt _ hwpos
                obtain ⟨v, hv⟩ : ∃ v, x.which[k % x.which.length]? = some v := ⟨x.which[k % x.which.length], by simp [hkml]⟩
                obtain ⟨w, hw, hwl⟩ : ∃ w : Nat, (v % 2).tmod ((goesI p i).length : Int) = w ∧ w < (goesI p i).length := by
                  have h2 : 0 ≤ v % 2 := Int.emod_nonneg v (by decide)
                  refine ⟨((v % 2).tmod ((goesI p i).length : Int)).toNat, ?_, ?_⟩
                  · rw [Int.tmod_eq_emod_of_nonneg h2]
                    exact (Int.toNat_of_nonneg (Int.emod_nonneg _ (by omega))).symm
                  · rw [Int.tmod_eq_emod_of_nonneg h2]
                    have := Int.emod_lt_of_pos (v % 2) (show (0 : Int) < (goesI p i).length by omega)
                    have := Int.emod_nonneg (v % 2) (show ((goesI p i).length : Int) ≠ 0 by omega)
                    omega
                obtain ⟨t, ht⟩ : ∃ t, (goesI p i)[w]? = some t := ⟨(goesI p i)[w], by simp [hwl]⟩
                have hbk := butK_but ht
                have hbl : w < (butI i).length := (List.getElem?_eq_some_iff.1 hbk).1
                obtain ⟨ht0, htl⟩ := goes_range hki t (List.mem_of_getElem? ht)
                obtain ⟨m, rfl⟩ : ∃ m : Nat, t = m := ⟨t.toNat, by omega⟩
                rw [Int.toNat_natCast] at htl
                simp -dsimp (maxDischargeDepth := 9) only [go_sem, Nat.reduceBEq, Nat.reduceLT, Nat.reduceAdd, Nat.reduceSub, Nat.reduceMul, Nat.reduceLeDiff, Int.reduceLE, Int.toNat_natCast, Int.natCast_nonneg, List.getElem?_map, List.length_map, Nat.zero_add, eq_self, Bool.not_true, Bool.not_false, e18, hG', hkm, hv, and1i, hw]
                refine andK_split (by omega) ?_
                simp -dsimp (maxDischargeDepth := 9) only [go_sem, Nat.reduceBEq, Nat.reduceLT, Nat.reduceAdd, Nat.reduceSub, Nat.reduceMul, Nat.reduceLeDiff, Int.reduceLE, Int.toNat_natCast, Int.natCast_nonneg, List.getElem?_map, List.length_map, Nat.zero_add, eq_self, Bool.not_true, Bool.not_false, e18, hG', hkm, hv, and1i, hw]
                refine andK_split (by omega) ?_
                simp -dsimp (maxDischargeDepth := 9) only [go_sem, Nat.reduceBEq, Nat.reduceLT, Nat.reduceAdd, Nat.reduceSub, Nat.reduceMul, Nat.reduceLeDiff, Int.reduceLE, Int.toNat_natCast, Int.natCast_nonneg, List.getElem?_map, List.length_map, Nat.zero_add, eq_self, Bool.not_true, Bool.not_false, e18, hG', hw, hbk, hbl]
                have hbkl : (butK i w).length < 1099511627776 := by
                  have := writesI_length i hiok
                  unfold butK; split
                  · split <;> simp
                  · exact this
                refine in_ok _ (butK i w) x.reg hbkl _ ?_
                simp -dsimp (maxDischargeDepth := 9) only [go_sem, Nat.reduceBEq, Nat.reduceLT, Nat.reduceAdd, Nat.reduceSub, Nat.reduceMul, Nat.reduceLeDiff, Int.reduceLE, Int.toNat_natCast, Int.natCast_nonneg, List.getElem?_map, List.length_map, Nat.zero_add, eq_self, Bool.not_true, Bool.not_false]
                refine gif_split (fun h9 => ?_) (fun h9 => ?_)
                · simp -dsimp (maxDischargeDepth := 9) only [go_sem, Nat.reduceBEq, Nat.reduceLT, Nat.reduceAdd, Nat.reduceSub, Nat.reduceMul, Nat.reduceLeDiff, Int.reduceLE, Int.toNat_natCast, Int.natCast_nonneg, List.getElem?_map, List.length_map, Nat.zero_add, eq_self, Bool.not_true, Bool.not_false]
                  exact retW_drop hleG (retW_is hK)
                simp -dsimp (maxDischargeDepth := 9) only [go_sem, Nat.reduceBEq, Nat.reduceLT, Nat.reduceAdd, Nat.reduceSub, Nat.reduceMul, Nat.reduceLeDiff, Int.reduceLE, Int.toNat_natCast, Int.natCast_nonneg, List.getElem?_map, List.length_map, Nat.zero_add, eq_self, Bool.not_true, Bool.not_false, ht, hw1]
                refine roundQ_next (k + 1, m) _ ⟨by simp only; omega, hleG, hG1, ?_, htl, ?_⟩ (by simp only; omega) (by simp -dsimp (maxDischargeDepth := 9) only [go_sem, Nat.reduceBEq, Nat.reduceLT, Nat.reduceAdd, Nat.reduceSub, Nat.reduceMul, Nat.reduceLeDiff, Int.reduceLE, Int.toNat_natCast, Int.natCast_nonneg, List.getElem?_map, List.length_map, Nat.zero_add, eq_self, Bool.not_true, Bool.not_false]) (.refl _)
                · have := ReachAt.step (t := (m : Int)) hrp hi (List.mem_of_getElem? ht) (by omega) (by simpa using htl)
                  simpa using this
                · intro r hr hlv
                  refine hnl r hr (.goes p i w m _ r hrp hi ht hbk hlv ?_)
                  intro hm
                  rw [← hr] at hm
                  rw [List.contains_iff_mem.2 hm] at h9; cases h9
            · simp -dsimp (maxDischargeDepth := 9) only [go_sem, Nat.reduceBEq, Nat.reduceLT, Nat.reduceAdd, Nat.reduceSub, Nat.reduceMul, Nat.reduceLeDiff, Int.reduceLE, Int.toNat_natCast, Int.natCast_nonneg, List.getElem?_map, List.length_map, Nat.zero_add, eq_self, Bool.not_true, Bool.not_false]
              exact retW_drop hle (retW_is hK)

end Go.Aug

/- What is read as data of the seat's types. -/
namespace Go.Aug
open Go.Proofs
set_option maxRecDepth 100000

section
variable {P : Program} {n : Nat} {t e : TypeId} {ds : List D}
theorem hasT_bool (hu : P.underlying t = some .bool) (h : HasT P n t ds) : ∃ b, ds = [.bool b] := by
  cases n with
  | zero => exact h.elim
  | succ n => simp only [HasT, hu] at h; exact h
theorem hasT_int {k : IntKind} (hu : P.underlying t = some (.int k)) (h : HasT P n t ds) : ∃ m, ds = [.int k m] := by
  cases n with
  | zero => exact h.elim
  | succ n => simp only [HasT, hu] at h; obtain ⟨m, e, _⟩ := h; exact ⟨m, e⟩
theorem hasT_str (hu : P.underlying t = some .string) (h : HasT P n t ds) : ∃ s, ds = [.str s] := by
  cases n with
  | zero => exact h.elim
  | succ n => simp only [HasT, hu] at h; obtain ⟨m, e, _⟩ := h; exact ⟨m, e⟩
theorem hasT_slice (hu : P.underlying t = some (.slice e)) (h : HasT P n t ds) : ∃ (m : Nat) (ess : List (List D)), n = m + 1 ∧ ds = [.slice (ess.map (elemOf P e))] ∧ ∀ cs ∈ ess, HasT P m e cs := by
  cases n with
  | zero => exact h.elim
  | succ n => simp only [HasT, hu] at h; obtain ⟨ess, e, _, h⟩ := h; exact ⟨n, ess, rfl, e, h⟩
theorem hasT_struct {fs : Array Field} (hu : P.underlying t = some (.struct fs)) (h : HasT P n t ds) : ∃ m, n = m + 1 ∧ ds.length = P.cellsOf t ∧ ∀ (i : Nat) (f : Field), fs[i]? = some f → HasT P m f.type ((ds.drop f.offset).take (P.cellsOf f.type)) := by
  cases n with
  | zero => exact h.elim
  | succ n => simp only [HasT, hu] at h; exact ⟨n, rfl, h⟩
theorem map_of {α β γ : Type} {f : α → γ} {g : β → γ} : ∀ {l : List α}, (∀ x ∈ l, ∃ y, f x = g y) → ∃ m : List β, l.map f = m.map g
  | [], _ => ⟨[], rfl⟩
  | x :: l, h => by
    obtain ⟨y, hy⟩ := h x (by simp)
    obtain ⟨m, hm⟩ := map_of (l := l) (fun z hz => h z (by simp [hz]))
    exact ⟨y :: m, by simp [hy, hm]⟩
end

theorem cells3 : Tryd.prog.cellsOf 3 = 1 := by kernel_rfl
theorem cells9 : Tryd.prog.cellsOf 9 = 1 := by kernel_rfl
theorem cells22 : Tryd.prog.cellsOf 22 = 1 := by kernel_rfl
theorem cells23 : Tryd.prog.cellsOf 23 = 1 := by kernel_rfl
theorem cells24 : Tryd.prog.cellsOf 24 = 1 := by kernel_rfl
theorem cells27 : Tryd.prog.cellsOf 27 = 1 := by kernel_rfl
theorem cells26 : Tryd.prog.cellsOf 26 = 6 := by kernel_rfl
theorem cells29 : Tryd.prog.cellsOf 29 = 9 := by kernel_rfl
theorem cells40 : Tryd.prog.cellsOf 40 = 9 := by kernel_rfl
theorem cells47 : Tryd.prog.cellsOf 47 = 4 := by kernel_rfl
theorem closed29 : closedT Tryd.prog [3, 4, 9, 22, 23, 24, 26, 27, 29, 40, 47] = true := by kernel_rfl

theorem elem_int {n : Nat} {cs : List D} (h : HasT Tryd.prog n 3 cs) : ∃ m : Int, elemOf Tryd.prog 3 cs = .int .i64 m := by
  obtain ⟨m, rfl⟩ := hasT_int Tryd.underlying3 h
  exact ⟨m, by simp only [elemOf, Tryd.underlying3]; rfl⟩
theorem hasT_ints {n : Nat} {ds : List D} (h : HasT Tryd.prog n 27 ds) : ∃ l : List Int, ds = [ints l] := by
  obtain ⟨m, ess, _, rfl, hess⟩ := hasT_slice Tryd.underlying27 h
  obtain ⟨l, hl⟩ := map_of (g := fun n : Int => D.int .i64 n) (fun cs hcs => elem_int (hess cs hcs))
  exact ⟨l, by rw [hl]; rfl⟩
theorem hasT_bools {n : Nat} {ds : List D} (h : HasT Tryd.prog n 23 ds) : ∃ l : List Bool, ds = [bools l] := by
  obtain ⟨m, ess, _, rfl, hess⟩ := hasT_slice Tryd.underlying23 h
  obtain ⟨l, hl⟩ := map_of (f := elemOf Tryd.prog 4) (g := fun n : Bool => D.bool n) (l := ess) (fun cs hcs => by
    obtain ⟨b, rfl⟩ := hasT_bool Tryd.underlying4 (hess cs hcs)
    exact ⟨b, by simp only [elemOf, Tryd.underlying4]; rfl⟩)
  exact ⟨l, by rw [hl]; rfl⟩

theorem len4 {α : Type} {l : List α} (h : l.length = 4) : ∃ a b c d, l = [a, b, c, d] := by
  match l, h with
  | [a, b, c, d], _ => exact ⟨a, b, c, d, rfl⟩
theorem len6 {α : Type} {l : List α} (h : l.length = 6) : ∃ a b c d e f, l = [a, b, c, d, e, f] := by
  match l, h with
  | [a, b, c, d, e, f], _ => exact ⟨a, b, c, d, e, f, rfl⟩
theorem len9 {α : Type} {l : List α} (h : l.length = 9) : ∃ a b c d e f g i j, l = [a, b, c, d, e, f, g, i, j] := by
  match l, h with
  | [a, b, c, d, e, f, g, i, j], _ => exact ⟨a, b, c, d, e, f, g, i, j, rfl⟩

theorem hasT_ty : ∀ (n : Nat) (ds : List D), HasT Tryd.prog n 47 ds → ∃ t : Ty, D.agg ds = t.d
  | 0, _, h => h.elim
  | n + 1, ds, h => by
    obtain ⟨m, hm, hl, hf⟩ := hasT_struct Tryd.underlying47 h
    obtain rfl : m = n := by omega
    rw [cells47] at hl
    obtain ⟨a, b, c, d, rfl⟩ := len4 hl
    have h0 : HasT Tryd.prog m 3 (([a, b, c, d].drop 0).take (Tryd.prog.cellsOf 3)) := hf 0 _ rfl
    have h1 : HasT Tryd.prog m 9 (([a, b, c, d].drop 1).take (Tryd.prog.cellsOf 9)) := hf 1 _ rfl
    have h2 : HasT Tryd.prog m 3 (([a, b, c, d].drop 2).take (Tryd.prog.cellsOf 3)) := hf 2 _ rfl
    have h3 : HasT Tryd.prog m 22 (([a, b, c, d].drop 3).take (Tryd.prog.cellsOf 22)) := hf 3 _ rfl
    simp only [cells3, cells9, cells22] at h0 h1 h2 h3
    obtain ⟨k, hk⟩ := hasT_int Tryd.underlying3 h0
    obtain ⟨s, hs⟩ := hasT_str Tryd.underlying9 h1
    obtain ⟨v, hv⟩ := hasT_int Tryd.underlying3 h2
    obtain ⟨q, ess, hq, he, hess⟩ := hasT_slice Tryd.underlying22 h3
    simp at hk hs hv he
    subst hk hs hv he hq
    obtain ⟨l, hl⟩ := map_of (f := elemOf Tryd.prog 47) (g := Ty.d) (l := ess) (fun cs hcs => by
      obtain ⟨t, ht⟩ := hasT_ty q cs (match q, hess with | q, h => h cs hcs)
      exact ⟨t, by rw [← ht]; simp only [elemOf, Tryd.underlying47]⟩)
    exact ⟨.mk k s v l, by simp [Ty.d, hl]⟩

theorem hasT_tys {n : Nat} {ds : List D} (h : HasT Tryd.prog n 22 ds) : ∃ l : List Ty, ds = [.slice (l.map Ty.d)] := by
  obtain ⟨m, ess, _, rfl, hess⟩ := hasT_slice Tryd.underlying22 h
  obtain ⟨l, hl⟩ := map_of (f := elemOf Tryd.prog 47) (g := Ty.d) (l := ess) (fun cs hcs => by
    obtain ⟨t, ht⟩ := hasT_ty m cs (hess cs hcs)
    exact ⟨t, by rw [← ht]; simp only [elemOf, Tryd.underlying47]⟩)
  exact ⟨l, by rw [hl]⟩

theorem hasT_ins {n : Nat} {ds : List D} (h : HasT Tryd.prog n 40 ds) : ∃ i : Ins, ds = i.cs := by
  obtain ⟨m, _, hl, hf⟩ := hasT_struct Tryd.underlying40 h
  rw [cells40] at hl
  obtain ⟨a, b, c, d, e, f, g, i, j, rfl⟩ := len9 hl
  have h0 : HasT Tryd.prog m 3 (([a, b, c, d, e, f, g, i, j].drop 0).take (Tryd.prog.cellsOf 3)) := hf 0 _ rfl
  have h1 : HasT Tryd.prog m 3 (([a, b, c, d, e, f, g, i, j].drop 1).take (Tryd.prog.cellsOf 3)) := hf 1 _ rfl
  have h2 : HasT Tryd.prog m 3 (([a, b, c, d, e, f, g, i, j].drop 2).take (Tryd.prog.cellsOf 3)) := hf 2 _ rfl
  have h3 : HasT Tryd.prog m 3 (([a, b, c, d, e, f, g, i, j].drop 3).take (Tryd.prog.cellsOf 3)) := hf 3 _ rfl
  have h4 : HasT Tryd.prog m 3 (([a, b, c, d, e, f, g, i, j].drop 4).take (Tryd.prog.cellsOf 3)) := hf 4 _ rfl
  have h5 : HasT Tryd.prog m 3 (([a, b, c, d, e, f, g, i, j].drop 5).take (Tryd.prog.cellsOf 3)) := hf 5 _ rfl
  have h6 : HasT Tryd.prog m 27 (([a, b, c, d, e, f, g, i, j].drop 6).take (Tryd.prog.cellsOf 27)) := hf 6 _ rfl
  have h7 : HasT Tryd.prog m 27 (([a, b, c, d, e, f, g, i, j].drop 7).take (Tryd.prog.cellsOf 27)) := hf 7 _ rfl
  have h8 : HasT Tryd.prog m 27 (([a, b, c, d, e, f, g, i, j].drop 8).take (Tryd.prog.cellsOf 27)) := hf 8 _ rfl
  simp only [cells3, cells27] at h0 h1 h2 h3 h4 h5 h6 h7 h8
  obtain ⟨x0, e0⟩ := hasT_int Tryd.underlying3 h0
  obtain ⟨x1, e1⟩ := hasT_int Tryd.underlying3 h1
  obtain ⟨x2, e2⟩ := hasT_int Tryd.underlying3 h2
  obtain ⟨x3, e3⟩ := hasT_int Tryd.underlying3 h3
  obtain ⟨x4, e4⟩ := hasT_int Tryd.underlying3 h4
  obtain ⟨x5, e5⟩ := hasT_int Tryd.underlying3 h5
  obtain ⟨x6, e6⟩ := hasT_ints h6
  obtain ⟨x7, e7⟩ := hasT_ints h7
  obtain ⟨x8, e8⟩ := hasT_ints h8
  simp at e0 e1 e2 e3 e4 e5 e6 e7 e8
  subst e0 e1 e2 e3 e4 e5 e6 e7 e8
  exact ⟨⟨x0, x1, x2, x3, x4, x5, x6, x7, x8⟩, rfl⟩

theorem hasT_cod {n : Nat} {ds : List D} (h : HasT Tryd.prog n 26 ds) : ∃ c : Cod, ds = c.cs ∧ CodTy c := by
  obtain ⟨m, _, hl, hf⟩ := hasT_struct Tryd.underlying26 h
  rw [cells26] at hl
  obtain ⟨a, b, c, d, e, f, rfl⟩ := len6 hl
  have h0 : HasT Tryd.prog m 9 (([a, b, c, d, e, f].drop 0).take (Tryd.prog.cellsOf 9)) := hf 0 _ rfl
  have h1 : HasT Tryd.prog m 22 (([a, b, c, d, e, f].drop 1).take (Tryd.prog.cellsOf 22)) := hf 1 _ rfl
  have h2 : HasT Tryd.prog m 23 (([a, b, c, d, e, f].drop 2).take (Tryd.prog.cellsOf 23)) := hf 2 _ rfl
  have h3 : HasT Tryd.prog m 3 (([a, b, c, d, e, f].drop 3).take (Tryd.prog.cellsOf 3)) := hf 3 _ rfl
  have h4 : HasT Tryd.prog m 22 (([a, b, c, d, e, f].drop 4).take (Tryd.prog.cellsOf 22)) := hf 4 _ rfl
  have h5 : HasT Tryd.prog m 24 (([a, b, c, d, e, f].drop 5).take (Tryd.prog.cellsOf 24)) := hf 5 _ rfl
  simp only [cells3, cells9, cells22, cells23, cells24] at h0 h1 h2 h3 h4 h5
  obtain ⟨x0, e0⟩ := hasT_str Tryd.underlying9 h0
  obtain ⟨x1, e1⟩ := hasT_tys h1
  obtain ⟨x2, e2⟩ := hasT_bools h2
  obtain ⟨x3, e3⟩ := hasT_int Tryd.underlying3 h3
  obtain ⟨x4, e4⟩ := hasT_tys h4
  obtain ⟨q, ess, _, e5, hess⟩ := hasT_slice Tryd.underlying24 h5
  obtain ⟨l, hl⟩ := map_of (f := elemOf Tryd.prog 40) (g := Ins.d) (l := ess) (fun cs hcs => by
    obtain ⟨i, hi⟩ := hasT_ins (hess cs hcs)
    exact ⟨i, by rw [hi]; simp only [elemOf, Tryd.underlying40]; rfl⟩)
  rw [hl] at e5
  simp at e0 e1 e2 e3 e4 e5
  subst e0 e1 e2 e3 e4 e5
  exact ⟨⟨x0, x1.map Ty.d, x2, x3, x4.map Ty.d, l⟩, rfl, ⟨x1, rfl⟩, ⟨x4, rfl⟩⟩

theorem hasT_way {n : Nat} {ds : List D} (h : HasT Tryd.prog n 29 ds) : ∃ x : Way, ds = x.cs ∧ CodTy x.code := by
  obtain ⟨m, _, hl, hf⟩ := hasT_struct Tryd.underlying29 h
  rw [cells29] at hl
  obtain ⟨a, b, c, d, e, f, g, i, j, rfl⟩ := len9 hl
  have h0 : HasT Tryd.prog m 26 (([a, b, c, d, e, f, g, i, j].drop 0).take (Tryd.prog.cellsOf 26)) := hf 0 _ rfl
  have h1 : HasT Tryd.prog m 27 (([a, b, c, d, e, f, g, i, j].drop 6).take (Tryd.prog.cellsOf 27)) := hf 1 _ rfl
  have h2 : HasT Tryd.prog m 3 (([a, b, c, d, e, f, g, i, j].drop 7).take (Tryd.prog.cellsOf 3)) := hf 2 _ rfl
  have h3 : HasT Tryd.prog m 3 (([a, b, c, d, e, f, g, i, j].drop 8).take (Tryd.prog.cellsOf 3)) := hf 3 _ rfl
  simp only [cells3, cells26, cells27] at h0 h1 h2 h3
  obtain ⟨x0, e0, hty⟩ := hasT_cod h0
  obtain ⟨x1, e1⟩ := hasT_ints h1
  obtain ⟨x2, e2⟩ := hasT_int Tryd.underlying3 h2
  obtain ⟨x3, e3⟩ := hasT_int Tryd.underlying3 h3
  simp at e0 e1 e2 e3
  subst e1 e2 e3
  refine ⟨⟨x0, x1, x2, x3⟩, ?_, hty⟩
  simp only [Way.cs, ← e0]; rfl

end Go.Aug
