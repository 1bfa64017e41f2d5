/- The contracts of live.Guards, of Goes whose answers are the caller's own, and of LiveHolds; conditions stand in each contract. -/
import Derived.Test.YtilmlmncoghpfaaDoorLiveTwo
set_option linter.all false
set_option linter.unusedVariables false
set_option linter.unusedSimpArgs false
set_option linter.unusedSectionVars false

/- live.Guards; places that aren't reached have no guards. -/
namespace Go.Aug
open Go.Proofs
set_option maxRecDepth 100000
set_option linter.unusedSimpArgs false
attribute [local irreducible] hid andK letA onSome onVar onArr arrOnly onInt onBool onFunc onTup idxA ldV ldD addO ofPart appTo fillL slA srcK nilQ retW gif sgd sguard svc sops sdops sagain aopO aLoad aStore aBin aUn aConv aLen aIndexAddr aIndex aSlice aAppend aBuild aBuildSlice aMakeSlice aField aFieldOf aCallOp deepK deepL frzM putE newK newV growV ACall roundQ thenQ inBlockQ sret cnd szs nilC

@[go_sem] theorem q_mapOf_45 : mapOf Tryd.prog 45 = some (.one (.int .i64), .bool false) := by kernel_rfl
@[go_sem] theorem q_isMapT_45 : isMapT Tryd.prog 45 = true := by kernel_rfl

inductive GuardR (c : Cod) : List (List Int) → D → Prop
  | no (h : FlowIs c none) : GuardR c [] (.sent 0)
  | yes (gs : List (List Int)) (h : FlowIs c (some gs)) : GuardR c gs (.raw .nilIface)

set_option maxHeartbeats 1000000 in
theorem guards_ok {eb : Nat → Addr} (H : Heap) (c : Cod) (hc : CodOk c) (hrd : ∀ i ∈ c.body, (readsI c i).length < 1099511627776) (K : A → Heap → Prop)
    (hK : ∀ gs e, GuardR c gs e → K (.tup [.d (intss gs), .d e]) H) : ACall Tryd.prog (seatV eb) 13 [.d c.d] H K := by
  have hn := hc.n
  refine ACall.by mixed fn13 (by simp) ?_
  conv in s13 => cbv
  refine svc_start ?_
  simp -dsimp (maxDischargeDepth := 9) only [go_sem, Nat.reduceBEq, Nat.reduceLT, Nat.reduceAdd, Nat.reduceSub, Nat.reduceMul, Nat.reduceLeDiff, Int.reduceLE, Int.toNat_natCast, Int.natCast_nonneg, List.getElem?_map, List.length_map, Nat.zero_add, eq_self, Bool.not_true, Bool.not_false, Cod.d, Cod.cs]
  refine newK_intro (fun b1 hb1 hn1 hm1 => ?_)
  have hle1 : LeH H (upd H b1 (.var (c.cs.map .d))) := leH_upd hb1 (.refl _)
  simp -dsimp (maxDischargeDepth := 9) only [go_sem, Nat.reduceBEq, Nat.reduceLT, Nat.reduceAdd, Nat.reduceSub, Nat.reduceMul, Nat.reduceLeDiff, Int.reduceLE, Int.toNat_natCast, Int.natCast_nonneg, List.getElem?_map, List.length_map, Nat.zero_add, eq_self, Bool.not_true, Bool.not_false]
  refine flow_ok _ c hc hrd _ (fun r hr => ?_)
  simp -dsimp (maxDischargeDepth := 9) only [go_sem, Nat.reduceBEq, Nat.reduceLT, Nat.reduceAdd, Nat.reduceSub, Nat.reduceMul, Nat.reduceLeDiff, Int.reduceLE, Int.toNat_natCast, Int.natCast_nonneg, List.getElem?_map, List.length_map, Nat.zero_add, eq_self, Bool.not_true, Bool.not_false]
  cases r with
  | none =>
    simp -dsimp (maxDischargeDepth := 9) only [go_sem, Nat.reduceBEq, Nat.reduceLT, Nat.reduceAdd, Nat.reduceSub, Nat.reduceMul, Nat.reduceLeDiff, Int.reduceLE, Int.toNat_natCast, Int.natCast_nonneg, List.getElem?_map, List.length_map, Nat.zero_add, eq_self, Bool.not_true, Bool.not_false, Option.getD_none]
    refine retW_tup [true, true] ?_
    simp -dsimp (maxDischargeDepth := 9) only [go_sem, Nat.reduceBEq, Nat.reduceLT, Nat.reduceAdd, Nat.reduceSub, Nat.reduceMul, Nat.reduceLeDiff, Int.reduceLE, Int.toNat_natCast, Int.natCast_nonneg, List.getElem?_map, List.length_map, Nat.zero_add, eq_self, Bool.not_true, Bool.not_false]
    exact retW_drop hle1 (retW_is (hK [] _ (.no hr)))
  | some gs =>
    obtain ⟨hgood, hgl, hgt⟩ := hr.good
    have hpos := flowBad_pos hgood
    simp -dsimp (maxDischargeDepth := 9) only [go_sem, Nat.reduceBEq, Nat.reduceLT, Nat.reduceAdd, Nat.reduceSub, Nat.reduceMul, Nat.reduceLeDiff, Int.reduceLE, Int.toNat_natCast, Int.natCast_nonneg, List.getElem?_map, List.length_map, Nat.zero_add, eq_self, Bool.not_true, Bool.not_false, Option.getD_some, intss]
    refine andK_split (by omega) ?_
    simp -dsimp (maxDischargeDepth := 9) only [go_sem, Nat.reduceBEq, Nat.reduceLT, Nat.reduceAdd, Nat.reduceSub, Nat.reduceMul, Nat.reduceLeDiff, Int.reduceLE, Int.toNat_natCast, Int.natCast_nonneg, List.getElem?_map, List.length_map, Nat.zero_add, eq_self, Bool.not_true, Bool.not_false]
    refine newV_intro (fun b6 v6 hb6 hn6 hm6 hv6 => ?_)
    have e16 : eqn b1 b6 = false := hn6 b1 (by simp -dsimp (maxDischargeDepth := 9) only [go_sem, Nat.reduceBEq, Nat.reduceLT, Nat.reduceAdd, Nat.reduceSub, Nat.reduceMul, Nat.reduceLeDiff, Int.reduceLE, Int.toNat_natCast, Int.natCast_nonneg, List.getElem?_map, List.length_map, Nat.zero_add, eq_self, Bool.not_true, Bool.not_false])
    have hb6' : upd H b1 (.var (c.cs.map .d)) b6 = none := hb6
    simp -dsimp (maxDischargeDepth := 9) only [go_sem, Nat.reduceBEq, Nat.reduceLT, Nat.reduceAdd, Nat.reduceSub, Nat.reduceMul, Nat.reduceLeDiff, Int.reduceLE, Int.toNat_natCast, Int.natCast_nonneg, List.getElem?_map, List.length_map, Nat.zero_add, eq_self, Bool.not_true, Bool.not_false, e16]
    refine svc_loop (fun k : Nat => [(4, .d (intss gs)), (6, .own b6 v6), (20, .d (.int .i64 gs.length)), (21, .d (.int .i64 k))])
      (fun k G => k ≤ gs.length ∧ LeH (upd (upd H b1 (.var (c.cs.map .d))) b6 (.arr 27 1 v6 ((gs.take k).map ints ++ List.replicate (gs.length - k) (.slice [])))) G) (fun k => gs.length - k) 0 _ ⟨Nat.zero_le _, .refl _⟩ (by simp -dsimp (maxDischargeDepth := 9) only [go_sem, Nat.reduceBEq, Nat.reduceLT, Nat.reduceAdd, Nat.reduceSub, Nat.reduceMul, Nat.reduceLeDiff, Int.reduceLE, Int.toNat_natCast, Int.natCast_nonneg, List.getElem?_map, List.length_map, Nat.zero_add, eq_self, Bool.not_true, Bool.not_false, Int.natCast_zero, intss]) (by simp -dsimp (maxDischargeDepth := 9) only [go_sem, Nat.reduceBEq, Nat.reduceLT, Nat.reduceAdd, Nat.reduceSub, Nat.reduceMul, Nat.reduceLeDiff, Int.reduceLE, Int.toNat_natCast, Int.natCast_nonneg, List.getElem?_map, List.length_map, Nat.zero_add, eq_self, Bool.not_true, Bool.not_false]; exact .refl _) ?_
    rintro k G ⟨hk, hG⟩
    have hG6 := hG b6 _ (upd_same ..)
    simp -dsimp (maxDischargeDepth := 9) only [go_sem, Nat.reduceBEq, Nat.reduceLT, Nat.reduceAdd, Nat.reduceSub, Nat.reduceMul, Nat.reduceLeDiff, Int.reduceLE, Int.toNat_natCast, Int.natCast_nonneg, List.getElem?_map, List.length_map, Nat.zero_add, eq_self, Bool.not_true, Bool.not_false, intss]
    refine gif_split (fun h1 => ?_) (fun h1 => ?_)
    · have hk' : k < gs.length := by simpa using h1
      obtain ⟨x, hx⟩ : ∃ x, gs[k]? = some x := ⟨gs[k], by simp [hk']⟩
      have hw1 := wrapS (k := k) (by omega)
      have hxl := (hgt x (List.mem_of_getElem? hx)).2
      have hlen : k < ((gs.take k).map ints ++ List.replicate (gs.length - k) (D.slice [])).length := by simp; omega
      obtain ⟨m, hm⟩ : ∃ m, gs.length - k = m + 1 := ⟨gs.length - k - 1, by omega⟩
      have htl : ((gs.take k).map ints).length = k := by simp; omega
      have hget : ((gs.take k).map ints ++ List.replicate (gs.length - k) (D.slice []))[k]? = some (.slice []) := by
        rw [List.getElem?_append_right (by omega), htl, Nat.sub_self, hm]; rfl
      simp -dsimp (maxDischargeDepth := 9) only [go_sem, Nat.reduceBEq, Nat.reduceLT, Nat.reduceAdd, Nat.reduceSub, Nat.reduceMul, Nat.reduceLeDiff, Int.reduceLE, Int.toNat_natCast, Int.natCast_nonneg, List.getElem?_map, List.length_map, Nat.zero_add, eq_self, Bool.not_true, Bool.not_false, hx, hk']
      refine clone_acc _ x _ (by omega) (fun a H' ha => ?_)
      have hH6 := ha.le _ _ hG6
      simp -dsimp (maxDischargeDepth := 9) only [go_sem, Nat.reduceBEq, Nat.reduceLT, Nat.reduceAdd, Nat.reduceSub, Nat.reduceMul, Nat.reduceLeDiff, Int.reduceLE, Int.toNat_natCast, Int.natCast_nonneg, List.getElem?_map, List.length_map, Nat.zero_add, eq_self, Bool.not_true, Bool.not_false, hH6, hlen]
      refine putE_deep (AccAt.deep ha (fun H3 h3 => ?_))
      have h36 := h3 _ _ hG6
      simp -dsimp (maxDischargeDepth := 9) only [go_sem, Nat.reduceBEq, Nat.reduceLT, Nat.reduceAdd, Nat.reduceSub, Nat.reduceMul, Nat.reduceLeDiff, Int.reduceLE, Int.toNat_natCast, Int.natCast_nonneg, List.getElem?_map, List.length_map, Nat.zero_add, eq_self, Bool.not_true, Bool.not_false, h36, hget, hw1]
      refine roundQ_next (k + 1) _ ⟨by omega, ?_⟩ (by omega) (by simp -dsimp (maxDischargeDepth := 9) only [go_sem, Nat.reduceBEq, Nat.reduceLT, Nat.reduceAdd, Nat.reduceSub, Nat.reduceMul, Nat.reduceLeDiff, Int.reduceLE, Int.toNat_natCast, Int.natCast_nonneg, List.getElem?_map, List.length_map, Nat.zero_add, eq_self, Bool.not_true, Bool.not_false, intss]) (.refl _)
      have hset : ((gs.take k).map ints ++ List.replicate (gs.length - k) (D.slice [])).set k (ints x) = (gs.take (k + 1)).map ints ++ List.replicate (gs.length - (k + 1)) (D.slice []) := by
        rw [List.set_append_right _ _ (by omega), htl, Nat.sub_self, hm, List.replicate_succ, List.set_cons_zero, List.take_add_one, hx]
        have : gs.length - (k + 1) = m := by omega
        simp [this]
      have := leH_both (b := b6) (o := .arr 27 1 v6 ((gs.take (k + 1)).map ints ++ List.replicate (gs.length - (k + 1)) (.slice []))) (hG.trans h3)
      rw [upd_upd] at this
      rw [← hset] at this ⊢
      exact this
    · have hk' : k = gs.length := by simp at h1; omega
      subst hk'
      rw [Nat.sub_self, List.replicate_zero, List.append_nil, List.take_length] at hG6 hG
      simp -dsimp (maxDischargeDepth := 9) only [go_sem, Nat.reduceBEq, Nat.reduceLT, Nat.reduceAdd, Nat.reduceSub, Nat.reduceMul, Nat.reduceLeDiff, Int.reduceLE, Int.toNat_natCast, Int.natCast_nonneg, List.getElem?_map, List.length_map, Nat.zero_add, eq_self, Bool.not_true, Bool.not_false]
      refine retW_tup [true, true] ?_
      simp -dsimp (maxDischargeDepth := 9) only [go_sem, Nat.reduceBEq, Nat.reduceLT, Nat.reduceAdd, Nat.reduceSub, Nat.reduceMul, Nat.reduceLeDiff, Int.reduceLE, Int.toNat_natCast, Int.natCast_nonneg, List.getElem?_map, List.length_map, Nat.zero_add, eq_self, Bool.not_true, Bool.not_false, hG6]
      refine retW_drop (G := H) ?_ (retW_is (hK _ _ (.yes gs hr)))
      exact leH_upd (LeH.free hle1 hb6') ((LeH.up hle1 hb6').trans hG)

/-- Seen is what is reached; what isn't seen has no guards. -/
structure SeenInv (body : List Ins) (s : FS) : Prop where
  seen : ∀ p, s.seen[p]? = some true → ReachAt body p
  un : ∀ (p : Nat) g, s.seen[p]? = some false → s.g[p]? = some g → g = []
  st : ∀ a ∈ s.st, 0 ≤ a ∧ ReachAt body a.toNat

theorem flowIn_seen {body : List Ins} {i : Ins} {a : Int} {here : List Int} : ∀ (ts : List Int) (k : Nat) (s s' : FS), SeenInv body s → (∀ t ∈ ts, 0 ≤ t ∧ ReachAt body t.toNat) → flowIn i a here k ts s = some s' → SeenInv body s'
  | [], k, s, s', h, _, he => by simp only [flowIn] at he; cases he; exact h
  | t :: ts, k, s, s', h, ht, he => by
    have htt := ht t (by simp)
    have hts : ∀ t ∈ ts, 0 ≤ t ∧ ReachAt body t.toNat := fun x hx => ht x (by simp [hx])
    simp only [flowIn] at he
    split at he
    · split at he
      · exact flowIn_seen ts _ _ _ h hts he
      · cases he
    · rename_i hns
      refine flowIn_seen ts _ _ _ ⟨?_, ?_, ?_⟩ hts he
      · intro p hp
        simp only [List.getElem?_set] at hp
        split at hp
        · rename_i e; subst e; exact htt.2
        · exact h.seen p hp
      · intro p g hp hg
        simp only [List.getElem?_set] at hp hg
        split at hp
        · split at hp <;> cases hp
        · rename_i e; rw [if_neg e] at hg; exact h.un p g hp hg
      · intro x hx
        simp only [List.mem_append, List.mem_singleton] at hx
        rcases hx with hx | rfl
        · exact h.st x hx
        · exact htt

theorem FRun.seen {body : List Ins} (hr : ∀ (k : Nat) i, body[k]? = some i → inRange body.length (goesI k i)) {s : FS} {r : Option (List (List Int))} (h : FRun body s r) :
    SeenInv body s → ∀ gs, r = some gs → ∀ (p : Nat) g, ¬ ReachAt body p → p < s.seen.length → gs[p]? = some g → g = [] := by
  induction h with
  | done s hst =>
    rintro hs gs he p g hp hl hg
    cases he
    refine hs.un p g ?_ hg
    rw [List.getElem?_eq_getElem hl]
    cases hh : s.seen[p] with
    | false => rfl
    | true => exact absurd (hs.seen p (by rw [List.getElem?_eq_getElem hl, hh])) hp
  | stop => intro _ gs he; cases he
  | clash => intro _ gs he; cases he
  | step s s' st a i here r hst hi hh hs hf hr' ih =>
    intro hinv gs he p g hp hl hg
    have ha := hinv.st a (by rw [hst]; simp)
    have e : ((a.toNat : Nat) : Int) = a := by omega
    have hin := hr a.toNat i hi
    rw [e] at hin
    have hinv1 : SeenInv body { s with st := st } := ⟨hinv.seen, hinv.un, fun x hx => hinv.st x (by rw [hst]; simp [hx])⟩
    have hinv' := flowIn_seen (goesI a i) 0 _ s' hinv1 (fun t ht => ⟨(hin t ht).1, .step ha.2 hi (by rw [e]; exact ht) (hin t ht).1 (hin t ht).2⟩) hf
    refine ih hinv' gs he p g hp ?_ hg
    have hlen : ∀ (ts : List Int) (k : Nat) (s s' : FS), flowIn i a here k ts s = some s' → s'.seen.length = s.seen.length := by
      intro ts
      induction ts with
      | nil => intro k s s' h; simp only [flowIn] at h; cases h; rfl
      | cons t ts ih =>
        intro k s s' h
        simp only [flowIn] at h
        split at h
        · split at h
          · exact ih _ _ _ h
          · cases h
        · have := ih _ _ _ h; simpa using this
    rw [hlen _ _ _ _ hf]; exact hl

theorem FlowIs.unreached {c : Cod} {gs : List (List Int)} (h : FlowIs c (some gs)) {p : Nat} {g : List Int} (hp : ¬ ReachAt c.body p) (hl : p < c.body.length) (hg : gs[p]? = some g) : g = [] := by
  cases h with
  | run _ hb hr =>
    have hkn := flowBad_known hb
    refine hr.seen (fun k i hi => goes_range (hkn k i hi)) ?_ gs rfl p g hp (by simpa [flowStart] using hl) hg
    have hpos := flowBad_pos hb
    refine ⟨?_, ?_, ?_⟩
    · intro q hq
      simp only [flowStart, List.getElem?_set, List.length_replicate] at hq
      split at hq
      · rename_i e; subst e; exact .zero hpos
      · rw [List.getElem?_replicate] at hq; split at hq <;> cases hq
    · intro q g hq hg
      simp only [flowStart, List.getElem?_replicate] at hg
      split at hg <;> cases hg; rfl
    · intro a ha
      simp only [flowStart, List.mem_singleton] at ha
      subst ha
      exact ⟨by omega, .zero hpos⟩

end Go.Aug

/- augurref16.Goes, whose answers are the caller's own. -/
namespace Go.Aug
open Go.Proofs
set_option maxRecDepth 100000
set_option linter.unusedSimpArgs false
attribute [local irreducible] hid andK letA onSome onVar onArr arrOnly onInt onBool onFunc onTup idxA ldV ldD addO ofPart appTo fillL slA srcK nilQ retW gif sgd sguard svc sops sdops sagain aopO aLoad aStore aBin aUn aConv aLen aIndexAddr aIndex aSlice aAppend aBuild aBuildSlice aMakeSlice aField aFieldOf aCallOp deepK deepL frzM putE newK newV growV ACall roundQ thenQ inBlockQ sret cnd szs nilC

/-- Two rows of one's own. -/
inductive Two (H : Heap) (l1 : List Int) (l2 : List (List Int)) : A → A → Heap → Prop
  | nils (G : Heap) (hle : LeH H G) (h1 : l1 = []) (h2 : l2 = []) : Two H l1 l2 .nils .nils G
  | own (d1 : Nat) (v1 : Value) (d2 : Nat) (v2 : Value) (G : Heap) (hle : LeH H G) (hn1 : H d1 = none) (hn2 : H d2 = none) (hne : d1 ≠ d2) (hv1 : v1.ownBlock = some d1) (hv2 : v2.ownBlock = some d2)
      (h1 : G d1 = some (.arr 3 1 v1 (l1.map fun n => .int .i64 n))) (h2 : G d2 = some (.arr 27 1 v2 (l2.map ints))) : Two H l1 l2 (.own d1 v1) (.own d2 v2) G

theorem two3 {H : Heap} {b0 d1 d2 : Nat} {o0 : AObj} {v1 v2 : Value} {x1 x2 : List D} {l1 : List Int} {l2 : List (List Int)} (h0 : H b0 = none) (h1 : upd H b0 o0 d1 = none) (h2 : upd (upd H b0 o0) d1 (.arr 3 1 v1 x1) d2 = none)
    (hv1 : v1.ownBlock = some d1) (hv2 : v2.ownBlock = some d2) (e1 : x1 = l1.map fun n => .int .i64 n) (e2 : x2 = l2.map ints) :
    Two H l1 l2 (.own d1 v1) (.own d2 v2) (upd (upd (upd H b0 o0) d1 (.arr 3 1 v1 x1)) d2 (.arr 27 1 v2 x2)) := by
  have a1 := upd_eq_none.1 h1
  have a2 := upd_eq_none.1 h2
  have a3 := upd_eq_none.1 a2.2
  refine .own _ _ _ _ _ (((LeH.up (.refl H) h0).up h1).up h2) a1.2 a3.2 (Ne.symm a2.1) hv1 hv2 ?_ ?_
  · rw [upd_ne _ _ (Ne.symm a2.1), upd_same, e1]
  · rw [upd_same, e2]

theorem two3' {H : Heap} {b0 d1 d2 : Nat} {o0 : AObj} {v1 v2 : Value} {x1 x2 : List D} {l1 : List Int} {l2 : List (List Int)} (h0 : H b0 = none) (h1 : upd H b0 o0 d2 = none) (h2 : upd (upd H b0 o0) d2 (.arr 27 1 v2 x2) d1 = none)
    (hv1 : v1.ownBlock = some d1) (hv2 : v2.ownBlock = some d2) (e1 : x1 = l1.map fun n => .int .i64 n) (e2 : x2 = l2.map ints) :
    Two H l1 l2 (.own d1 v1) (.own d2 v2) (upd (upd (upd H b0 o0) d2 (.arr 27 1 v2 x2)) d1 (.arr 3 1 v1 x1)) := by
  have a1 := upd_eq_none.1 h1
  have a2 := upd_eq_none.1 h2
  have a3 := upd_eq_none.1 a2.2
  refine .own _ _ _ _ _ (((LeH.up (.refl H) h0).up h1).up h2) a3.2 a1.2 a2.1 hv1 hv2 ?_ ?_
  · rw [upd_same, e1]
  · rw [upd_ne _ _ (Ne.symm a2.1), upd_same, e2]

theorem tests_may (i : Ins) : testsI i.op = mayI i := rfl

theorem goes_own {eb : Nat → Addr} (H : Heap) (at_ : Int) (h0 : 0 ≤ at_) (h1 : at_ < 1099511627776) (i : Ins) (hi : raisesI i.op = true) (K : A → Heap → Prop) (hK : ∀ a b G, Two H (goesI at_ i) (butI i) a b G → K (.tup [a, b]) G) :
    ACall Tryd.prog (seatV eb) 12 [.d (.int .i64 at_), .d i.d] H K := by
  have hw : IntKind.i64.wrap (at_ + 1) = at_ + 1 := wrap64 (by omega) (by omega)
  refine ACall.by mixed fn12 (by simp) ?_
  conv in s12 => cbv
  refine svc_start ?_
  simp -dsimp (maxDischargeDepth := 9) only [go_sem, Nat.reduceBEq, Nat.reduceLT, Nat.reduceAdd, Nat.reduceSub, Nat.reduceMul, Nat.reduceLeDiff, Int.reduceLE, Int.toNat_natCast, Int.natCast_nonneg, List.getElem?_map, List.length_map, Nat.zero_add, eq_self, Bool.not_true, Bool.not_false, Ins.d, Ins.cs]
  repeat' (first | (refine gif_split (fun h => ?_) (fun h => ?_) <;> (try simp -dsimp (maxDischargeDepth := 9) only [go_sem, Nat.reduceBEq, Nat.reduceLT, Nat.reduceAdd, Nat.reduceSub, Nat.reduceMul, Nat.reduceLeDiff, Int.reduceLE, Int.toNat_natCast, Int.natCast_nonneg, List.getElem?_map, List.length_map, Nat.zero_add, eq_self, Bool.not_true, Bool.not_false, *, Ins.d, Ins.cs])) | (refine newV_intro (fun b v hb hn hm hv => ?_); (try simp -dsimp (maxDischargeDepth := 9) only [go_sem, Nat.reduceBEq, Nat.reduceLT, Nat.reduceAdd, Nat.reduceSub, Nat.reduceMul, Nat.reduceLeDiff, Int.reduceLE, Int.toNat_natCast, Int.natCast_nonneg, List.getElem?_map, List.length_map, Nat.zero_add, eq_self, Bool.not_true, Bool.not_false, *, Ins.d, Ins.cs])) | (refine newK_intro (fun b hb hn hm => ?_); (try simp -dsimp (maxDischargeDepth := 9) only [go_sem, Nat.reduceBEq, Nat.reduceLT, Nat.reduceAdd, Nat.reduceSub, Nat.reduceMul, Nat.reduceLeDiff, Int.reduceLE, Int.toNat_natCast, Int.natCast_nonneg, List.getElem?_map, List.length_map, Nat.zero_add, eq_self, Bool.not_true, Bool.not_false, *, Ins.d, Ins.cs])) | (refine growV_intro (fun b v hb hn hm hv => ?_); (try simp -dsimp (maxDischargeDepth := 9) only [go_sem, Nat.reduceBEq, Nat.reduceLT, Nat.reduceAdd, Nat.reduceSub, Nat.reduceMul, Nat.reduceLeDiff, Int.reduceLE, Int.toNat_natCast, Int.natCast_nonneg, List.getElem?_map, List.length_map, Nat.zero_add, eq_self, Bool.not_true, Bool.not_false, *, Ins.d, Ins.cs])) | (refine andK_split (by omega) ?_; (try simp -dsimp (maxDischargeDepth := 9) only [go_sem, Nat.reduceBEq, Nat.reduceLT, Nat.reduceAdd, Nat.reduceSub, Nat.reduceMul, Nat.reduceLeDiff, Int.reduceLE, Int.toNat_natCast, Int.natCast_nonneg, List.getElem?_map, List.length_map, Nat.zero_add, eq_self, Bool.not_true, Bool.not_false, *, Ins.d, Ins.cs])) | (refine nilQ_intro ?_ (fun h => ?_) <;> (try simp -dsimp (maxDischargeDepth := 9) only [go_sem, Nat.reduceBEq, Nat.reduceLT, Nat.reduceAdd, Nat.reduceSub, Nat.reduceMul, Nat.reduceLeDiff, Int.reduceLE, Int.toNat_natCast, Int.natCast_nonneg, List.getElem?_map, List.length_map, Nat.zero_add, eq_self, Bool.not_true, Bool.not_false, *, Ins.d, Ins.cs])) | (refine And.intro ?_ ?_ <;> (try simp -dsimp (maxDischargeDepth := 9) only [go_sem, Nat.reduceBEq, Nat.reduceLT, Nat.reduceAdd, Nat.reduceSub, Nat.reduceMul, Nat.reduceLeDiff, Int.reduceLE, Int.toNat_natCast, Int.natCast_nonneg, List.getElem?_map, List.length_map, Nat.zero_add, eq_self, Bool.not_true, Bool.not_false, *, Ins.d, Ins.cs])) | (refine (fun (v : Value) (hv : v.ownBlock = some _) => ?_); (try simp -dsimp (maxDischargeDepth := 9) only [go_sem, Nat.reduceBEq, Nat.reduceLT, Nat.reduceAdd, Nat.reduceSub, Nat.reduceMul, Nat.reduceLeDiff, Int.reduceLE, Int.toNat_natCast, Int.natCast_nonneg, List.getElem?_map, List.length_map, Nat.zero_add, eq_self, Bool.not_true, Bool.not_false, *, Ins.d, Ins.cs])) | (refine may_ok _ _ _ ?_; (try simp -dsimp (maxDischargeDepth := 9) only [go_sem, Nat.reduceBEq, Nat.reduceLT, Nat.reduceAdd, Nat.reduceSub, Nat.reduceMul, Nat.reduceLeDiff, Int.reduceLE, Int.toNat_natCast, Int.natCast_nonneg, List.getElem?_map, List.length_map, Nat.zero_add, eq_self, Bool.not_true, Bool.not_false, *, Ins.d, Ins.cs])) | (refine writes_ok _ _ _ ?_; (try simp -dsimp (maxDischargeDepth := 9) only [go_sem, Nat.reduceBEq, Nat.reduceLT, Nat.reduceAdd, Nat.reduceSub, Nat.reduceMul, Nat.reduceLeDiff, Int.reduceLE, Int.toNat_natCast, Int.natCast_nonneg, List.getElem?_map, List.length_map, Nat.zero_add, eq_self, Bool.not_true, Bool.not_false, *, Ins.d, Ins.cs])))
  all_goals first
    | (exfalso; simp [raisesI] at hi; simp_all; done)
    | exact retW_is (hK _ _ _ (.nils _ (leH_upd (by assumption) (.refl _)) (by simp_all [goesI]) (by simp_all [butI])))
    | exact retW_is (hK _ _ _ (two3 (by assumption) (by assumption) (by assumption) (by assumption) (by assumption) (by simp_all [goesI, tests_may]) (by simp_all [butI, ints])))
    | exact retW_is (hK _ _ _ (two3' (by assumption) (by assumption) (by assumption) (by assumption) (by assumption) (by simp_all [goesI, tests_may]) (by simp_all [butI, ints])))
end Go.Aug

/- LiveHolds: the plain part. -/
namespace Go.Aug
open Go.Proofs
set_option maxRecDepth 100000
set_option linter.unusedSimpArgs false
attribute [local irreducible] hid andK letA onSome onVar onArr arrOnly onInt onBool onFunc onTup idxA ldV ldD addO ofPart appTo fillL slA srcK nilQ retW gif sgd sguard svc sops sdops sagain aopO aLoad aStore aBin aUn aConv aLen aIndexAddr aIndex aSlice aAppend aBuild aBuildSlice aMakeSlice aField aFieldOf aCallOp deepK deepL frzM putE newK newV growV ACall roundQ thenQ inBlockQ sret cnd szs nilC

/-- A map's keys are the numbers of which S is so; all stand for true. -/
def WantIs (m : List (D × D)) (S : Int → Prop) : Prop :=
  ∃ ks : List Int, m = ks.map (fun x => (D.int .i64 x, D.bool true)) ∧ ks.Nodup ∧ ∀ x, x ∈ ks ↔ S x

theorem WantIs.nil : WantIs [] fun _ => False := ⟨[], rfl, List.nodup_nil, fun x => by simp⟩
theorem WantIs.congr {m : List (D × D)} {S S' : Int → Prop} (h : WantIs m S) (he : ∀ y, S y ↔ S' y) : WantIs m S' :=
  let ⟨ks, h1, h2, h3⟩ := h
  ⟨ks, h1, h2, fun x => (h3 x).trans (he x)⟩

theorem mput_ints (x : Int) : ∀ ks : List Int, mput (ks.map fun x => (D.int .i64 x, D.bool true)) (.int .i64 x) (.bool true) = (if x ∈ ks then ks else ks ++ [x]).map fun x => (D.int .i64 x, D.bool true)
  | [] => rfl
  | k :: ks => by
    have ih := mput_ints x ks
    simp only [List.map_cons, mput, keq, leq, decide_eq_true_eq]
    by_cases e : x = k
    · subst e; simp
    · rw [if_neg e, ih]
      by_cases e2 : x ∈ ks
      · rw [if_pos e2, if_pos (by simp [e2])]; rfl
      · rw [if_neg e2, if_neg (by simp [e, e2])]; rfl

theorem WantIs.put {m : List (D × D)} {S : Int → Prop} (h : WantIs m S) (x : Int) : WantIs (mput m (.int .i64 x) (.bool true)) fun y => S y ∨ y = x := by
  obtain ⟨ks, rfl, h2, h3⟩ := h
  refine ⟨_, mput_ints x ks, ?_, ?_⟩
  · split
    · exact h2
    · rename_i hx
      rw [List.nodup_append]
      exact ⟨h2, by simp, fun a ha b hb => by simp at hb; subst hb; rintro rfl; exact hx ha⟩
  · intro y
    split
    · rename_i hx
      rw [h3]
      constructor
      · exact .inl
      · rintro (h | rfl)
        · exact h
        · exact (h3 _).1 hx
    · simp [h3]

theorem WantIs.get {m : List (D × D)} {S : Int → Prop} (h : WantIs m S) {x : Int} (hx : S x) : mget m (.int .i64 x) = some (.bool true) := by
  obtain ⟨ks, rfl, hnd, h3⟩ := h
  have hx := (h3 x).2 hx
  clear h3 hnd
  induction ks with
  | nil => simp at hx
  | cons k ks ih =>
    simp only [List.map_cons, mget, keq, leq, decide_eq_true_eq]
    by_cases e : x = k
    · rw [if_pos e]
    · rw [if_neg e]; exact ih (by simpa [e] using hx)

theorem WantIs.length {m : List (D × D)} {S : Int → Prop} (h : WantIs m S) {l : List Int} (hl : l.Pairwise (· < ·)) (he : ∀ y, y ∈ l ↔ S y) : m.length = l.length := by
  obtain ⟨ks, rfl, h2, h3⟩ := h
  have hn : l.Nodup := hl.imp (fun h e => by omega)
  have := (List.perm_ext_iff_of_nodup h2 hn).2 (fun a => (h3 a).trans (he a).symm)
  simpa using this.length_eq

/-- What is live at a place, by where it goes on. -/
structure Goes2 (c : Cod) (gs : List (List Int)) (p : Nat) (i : Ins) (tos : List Int) (buts : List (List Int)) : Prop where
  len : buts.length = tos.length
  short : tos.length < 8
  rng : ∀ (j : Nat) t, tos[j]? = some t → ∃ m : Nat, t = m ∧ m < c.body.length
  bl : ∀ b ∈ buts, b.length < 1099511627776
  live : ∀ r : Nat, LiveAt c gs p r ↔ ((r : Int) ∈ readsI c i ∨ ∃ (j m : Nat) (but : List Int), tos[j]? = some (m : Int) ∧ buts[j]? = some but ∧ LiveAt c gs m r ∧ (r : Int) ∉ but)

theorem butI_length (p : Int) (i : Ins) : (butI i).length = (goesI p i).length := by
  have hm : testsI i.op = mayI i := rfl
  unfold butI goesI
  rw [hm]
  by_cases a1 : i.op = 11
  · simp [a1]
  by_cases a2 : i.op = 12 ∨ i.op = 13 ∨ i.op = 15
  · rw [if_neg a1, if_pos a2, if_neg a1, if_pos a2]; rfl
  by_cases a3 : i.op = 14
  · simp [a3]
  by_cases a4 : i.op = 16
  · simp [a4]
  by_cases a5 : mayI i = true ∧ i.l ≠ -1
  · simp [a1, a2, a3, a4, a5]
  · simp [a1, a2, a3, a4, a5]

theorem butI_short {i : Ins} (hi : i.ok) : ∀ b ∈ butI i, b.length < 1099511627776 := by
  intro b hb
  have := writesI_length i hi
  obtain ⟨k, hk⟩ := List.getElem?_of_mem hb
  have hlen : k < (goesI 0 i).length := by rw [← butI_length]; exact (List.getElem?_eq_some_iff.1 hk).1
  have := butK_but (p := 0) (i := i) (k := k) (t := (goesI 0 i)[k]) (by simp [hlen])
  rw [hk] at this
  simp only [Option.some.injEq] at this
  subst this
  unfold butK
  split
  · split <;> simp
  · omega

theorem goes2_plain {c : Cod} {gs : List (List Int)} {p : Nat} {i : Ins} {g : List Int} (hp : ReachAt c.body p) (hi : c.body[p]? = some i) (hk : knownI c p i = true) (hok : i.ok) (hg : gs[p]? = some g) (hn : g = [] ∨ raisesI i.op = false) :
    Goes2 c gs p i (goesI p i) (butI i) := by
  refine ⟨butI_length _ _, by have := goesI_length p i; omega, ?_, butI_short hok, ?_⟩
  · intro j t ht
    obtain ⟨h0, h1⟩ := goes_range hk t (List.mem_of_getElem? ht)
    exact ⟨t.toNat, by omega, h1⟩
  · intro r
    constructor
    · intro h
      cases h with
      | reads _ i' _ h hi' hr => rw [hi] at hi'; cases hi'; exact .inl hr
      | goes _ i' k t but _ h hi' ht hb hl hr => rw [hi] at hi'; cases hi'; exact .inr ⟨k, t, but, ht, hb, hl, hr⟩
      | guard _ i' g' a tr t _ h hi' hra hg' ha htr ht hl hr =>
        rw [hi] at hi'; cases hi'
        rw [hg] at hg'; cases hg'
        rcases hn with rfl | hn
        · simp at ha
        · rw [hn] at hra; cases hra
    · rintro (h | ⟨k, t, but, ht, hb, hl, hr⟩)
      · exact .reads p i r hp hi h
      · exact .goes p i k t but r hp hi ht hb hl hr

theorem goes2_guard {c : Cod} {gs : List (List Int)} {p : Nat} {i : Ins} {g : List Int} {a : Nat} {tr : Ins} (hp : ReachAt c.body p) (hi : c.body[p]? = some i) (hk : knownI c p i = true) (hok : i.ok) (hg : gs[p]? = some g) (hr : raisesI i.op = true)
    (ha : g.getLast? = some (a : Int)) (htr : c.body[a]? = some tr) (hka : knownI c a tr = true) (h16 : tr.op = 16) : Goes2 c gs p i (goesI p i ++ [tr.l]) (butI i ++ [[tr.a]]) := by
  have hlen := butI_length p i
  have hin : ∃ m : Nat, tr.l = m ∧ m < c.body.length := by
    obtain ⟨h0, h1⟩ := goes_range hka tr.l (by simp [goesI, h16])
    exact ⟨tr.l.toNat, by omega, h1⟩
  refine ⟨by simp [hlen], by have := goesI_length p i; simp; omega, ?_, ?_, ?_⟩
  · intro j t ht
    rw [List.getElem?_append] at ht
    split at ht
    · obtain ⟨h0, h1⟩ := goes_range hk t (List.mem_of_getElem? ht)
      exact ⟨t.toNat, by omega, h1⟩
    · have := List.mem_of_getElem? ht
      simp only [List.mem_singleton] at this
      subst this; exact hin
  · intro b hb
    rw [List.mem_append] at hb
    rcases hb with hb | hb
    · exact butI_short hok b hb
    · simp only [List.mem_singleton] at hb; subst hb; simp
  · intro r
    constructor
    · intro h
      cases h with
      | reads _ i' _ h hi' hr => rw [hi] at hi'; cases hi'; exact .inl hr
      | goes _ i' k t but _ h hi' ht hb hl hr =>
        rw [hi] at hi'; cases hi'
        refine .inr ⟨k, t, but, ?_, ?_, hl, hr⟩
        · rw [List.getElem?_append_left (List.getElem?_eq_some_iff.1 ht).1]; exact ht
        · rw [List.getElem?_append_left (List.getElem?_eq_some_iff.1 hb).1]; exact hb
      | guard _ i' g' a' tr' t _ h hi' hra hg' ha' htr' ht hl hr =>
        rw [hi] at hi'; cases hi'
        rw [hg] at hg'; cases hg'
        rw [ha] at ha'
        simp only [Option.some.injEq] at ha'
        have : a = a' := by omega
        subst this
        rw [htr] at htr'; cases htr'
        refine .inr ⟨(goesI p i).length, t, [tr.a], ?_, ?_, hl, by simpa using hr⟩
        · rw [List.getElem?_append_right (Nat.le_refl _), Nat.sub_self, ← ht]; rfl
        · rw [← hlen, List.getElem?_append_right (Nat.le_refl _), Nat.sub_self]; rfl
    · rintro (h | ⟨k, t, but, ht, hb, hl, hr'⟩)
      · exact .reads p i r hp hi h
      · by_cases hkl : k < (goesI p i).length
        · rw [List.getElem?_append_left hkl] at ht
          rw [List.getElem?_append_left (by omega)] at hb
          exact .goes p i k t but r hp hi ht hb hl hr'
        · have hk2 : k = (goesI p i).length := by
            have := (List.getElem?_eq_some_iff.1 ht).1
            simp at this; omega
          subst hk2
          rw [List.getElem?_append_right (Nat.le_refl _), Nat.sub_self] at ht
          rw [← hlen, List.getElem?_append_right (Nat.le_refl _), Nat.sub_self] at hb
          simp at ht hb
          subst hb
          exact .guard p i g a tr t r hp hi hr hg ha htr ht hl (by simpa using hr')

/-- The numbers that are wanted, when so many ways have been gone over. -/
def Want4 (c : Cod) (i : Ins) (ls : List (List Int)) (tos : List Int) (buts : List (List Int)) (j : Nat) (y : Int) : Prop :=
  y ∈ readsI c i ∨ ∃ (j' : Nat) (m : Nat) (but l : List Int), j' < j ∧ tos[j']? = some (m : Int) ∧ buts[j']? = some but ∧ ls[m]? = some l ∧ y ∈ l ∧ y ∉ but

theorem want4_zero (c : Cod) (i : Ins) (ls : List (List Int)) (tos : List Int) (buts : List (List Int)) (y : Int) : y ∈ readsI c i ↔ Want4 c i ls tos buts 0 y :=
  ⟨.inl, fun h => by rcases h with h | ⟨_, _, _, _, h, _⟩; exact h; omega⟩

theorem want4_succ {c : Cod} {i : Ins} {ls : List (List Int)} {tos : List Int} {buts : List (List Int)} {j m : Nat} {but l : List Int} (ht : tos[j]? = some (m : Int)) (hb : buts[j]? = some but) (hl : ls[m]? = some l) (y : Int) :
    (Want4 c i ls tos buts j y ∨ (y ∈ l ∧ y ∉ but)) ↔ Want4 c i ls tos buts (j + 1) y := by
  constructor
  · rintro ((h | ⟨a, b, d, e, h1, h2, h3, h4, h5, h6⟩) | ⟨h1, h2⟩)
    · exact .inl h
    · exact .inr ⟨a, b, d, e, by omega, h2, h3, h4, h5, h6⟩
    · exact .inr ⟨j, m, but, l, by omega, ht, hb, hl, h1, h2⟩
  · rintro (h | ⟨a, b, d, e, h1, h2, h3, h4, h5, h6⟩)
    · exact .inl (.inl h)
    · rcases Nat.lt_succ_iff_lt_or_eq.1 h1 with h1 | rfl
      · exact .inl (.inr ⟨a, b, d, e, h1, h2, h3, h4, h5, h6⟩)
      · rw [ht] at h2; simp only [Option.some.injEq] at h2
        have : m = b := by omega
        subst this
        rw [hb] at h3; cases h3
        rw [hl] at h4; cases h4
        exact .inr ⟨h5, h6⟩

theorem want4_all {c : Cod} {gs ls : List (List Int)} {p : Nat} {i : Ins} {tos : List Int} {buts : List (List Int)} (hg : Goes2 c gs p i tos buts) (hL : LiveIs c gs ls) (hk : knownI c p i = true) {l : List Int} (hl : ls[p]? = some l) (y : Int) :
    y ∈ l ↔ Want4 c i ls tos buts tos.length y := by
  rw [hL.mem p l hl y]
  constructor
  · rintro ⟨r, rfl, h⟩
    rcases (hg.live r).1 h with h | ⟨j, m, but, h1, h2, h3, h4⟩
    · exact .inl h
    · obtain ⟨m', hm, hml⟩ := hg.rng j _ h1
      have : m = m' := by omega
      subst this
      have hlen : m < ls.length := by rw [hL.len]; exact hml
      exact .inr ⟨j, m, but, ls[m], (List.getElem?_eq_some_iff.1 h1).1, h1, h2, by simp [hlen], (hL.mem m _ (by simp [hlen]) _).2 ⟨r, rfl, h3⟩, h4⟩
  · rintro (h | ⟨j, m, but, l', h0, h1, h2, h3, h4, h5⟩)
    · obtain ⟨a, b⟩ := known_reads hk _ h
      have e : ((y.toNat : Nat) : Int) = y := by omega
      exact ⟨y.toNat, e.symm, (hg.live _).2 (.inl (by rw [e]; exact h))⟩
    · obtain ⟨r, rfl, hr⟩ := (hL.mem m l' h3 y).1 h4
      exact ⟨r, rfl, (hg.live r).2 (.inr ⟨j, m, but, h1, h2, hr, h5⟩)⟩

theorem take_mem {l : List Int} {k : Nat} {x : Int} (h : l[k]? = some x) (y : Int) : (y ∈ l.take k ∨ y = x) ↔ y ∈ l.take (k + 1) := by
  rw [List.take_add_one, h]; simp

end Go.Aug

/- LiveHolds: the live sets hold everywhere. -/
namespace Go.Aug
open Go.Proofs
set_option maxRecDepth 100000
set_option linter.unusedSimpArgs false
attribute [local irreducible] hid andK letA onSome onVar onArr arrOnly onInt onBool onFunc onTup idxA ldV ldD addO ofPart appTo fillL slA srcK nilQ retW gif sgd sguard svc sops sdops sagain aopO aLoad aStore aBin aUn aConv aLen aIndexAddr aIndex aSlice aAppend aBuild aBuildSlice aMakeSlice aField aFieldOf aCallOp deepK deepL frzM putE newK newV growV ACall roundQ thenQ inBlockQ sret cnd szs nilC
attribute [local go_sem] Int.natCast_zero

theorem leH_grow {N X : Heap} {d b : Nat} {o : AObj} (hX : LeH N X) (hd : N d = none) (hg : b = d ∨ X b = none) : LeH N (upd (del X d) b o) := by
  refine leH_upd ?_ (leH_del hd hX)
  rcases hg with rfl | h
  · exact hd
  · exact hX.free h

theorem leH_fresh {N X : Heap} {d b : Nat} (hX : LeH N X) (hg : b = d ∨ X b = none) (hd : N d = none) : N b = none := by
  rcases hg with rfl | h
  · exact hd
  · exact hX.free h

set_option maxHeartbeats 8000000 in
theorem liveHolds_ok {eb : Nat → Addr} (H : Heap) (c : Cod) (hty : CodTy c) (K : A → Heap → Prop) (hK : K (.d (.bool true)) H) : ACall Tryd.prog (seatV eb) 4 [.d c.d] H K := by
  refine ACall.by mixed fn4 (by simp) ?_
  conv in s4 => cbv
  refine svc_start ?_
  simp -dsimp (maxDischargeDepth := 9) only [go_sem, Nat.reduceBEq, Nat.reduceLT, Nat.reduceAdd, Nat.reduceSub, Nat.reduceMul, Nat.reduceLeDiff, Int.reduceLE, Int.toNat_natCast, Int.natCast_nonneg, List.getElem?_map, List.length_map, Nat.zero_add, eq_self, Bool.not_true, Bool.not_false, Cod.d, Cod.cs]
  refine newK_intro (fun b1 hb1 hn1 hm1 => ?_)
  have hle1 : ∀ o, LeH H (upd H b1 o) := fun o => leH_upd hb1 (.refl _)
  simp -dsimp (maxDischargeDepth := 9) only [go_sem, Nat.reduceBEq, Nat.reduceLT, Nat.reduceAdd, Nat.reduceSub, Nat.reduceMul, Nat.reduceLeDiff, Int.reduceLE, Int.toNat_natCast, Int.natCast_nonneg, List.getElem?_map, List.length_map, Nat.zero_add, eq_self, Bool.not_true, Bool.not_false]
  refine alive_ok _ _ ?_
  simp -dsimp (maxDischargeDepth := 9) only [go_sem, Nat.reduceBEq, Nat.reduceLT, Nat.reduceAdd, Nat.reduceSub, Nat.reduceMul, Nat.reduceLeDiff, Int.reduceLE, Int.toNat_natCast, Int.natCast_nonneg, List.getElem?_map, List.length_map, Nat.zero_add, eq_self, Bool.not_true, Bool.not_false]
  refine inForm_ok _ c hty _ (fun bf hbf => ?_)
  simp -dsimp (maxDischargeDepth := 9) only [go_sem, Nat.reduceBEq, Nat.reduceLT, Nat.reduceAdd, Nat.reduceSub, Nat.reduceMul, Nat.reduceLeDiff, Int.reduceLE, Int.toNat_natCast, Int.natCast_nonneg, List.getElem?_map, List.length_map, Nat.zero_add, eq_self, Bool.not_true, Bool.not_false]
  cases bf with
  | false =>
    simp -dsimp (maxDischargeDepth := 9) only [go_sem, Nat.reduceBEq, Nat.reduceLT, Nat.reduceAdd, Nat.reduceSub, Nat.reduceMul, Nat.reduceLeDiff, Int.reduceLE, Int.toNat_natCast, Int.natCast_nonneg, List.getElem?_map, List.length_map, Nat.zero_add, eq_self, Bool.not_true, Bool.not_false]
    exact retW_drop (hle1 _) (retW_is hK)
  | true =>
    obtain ⟨hform, hsmall⟩ := hbf rfl
    obtain ⟨hcok, hrd⟩ := CodOk.of hform hsmall
    simp -dsimp (maxDischargeDepth := 9) only [go_sem, Nat.reduceBEq, Nat.reduceLT, Nat.reduceAdd, Nat.reduceSub, Nat.reduceMul, Nat.reduceLeDiff, Int.reduceLE, Int.toNat_natCast, Int.natCast_nonneg, List.getElem?_map, List.length_map, Nat.zero_add, eq_self, Bool.not_true, Bool.not_false]
    refine live_ok _ c hcok hrd (by omega) _ (fun ls e hL => ?_)
    simp -dsimp (maxDischargeDepth := 9) only [go_sem, Nat.reduceBEq, Nat.reduceLT, Nat.reduceAdd, Nat.reduceSub, Nat.reduceMul, Nat.reduceLeDiff, Int.reduceLE, Int.toNat_natCast, Int.natCast_nonneg, List.getElem?_map, List.length_map, Nat.zero_add, eq_self, Bool.not_true, Bool.not_false]
    refine guards_ok _ c hcok hrd _ (fun gs e2 hG => ?_)
    cases hL with
    | no hf =>
      cases hG with
      | yes gs hf2 => exact absurd (hf2.det hf) (by simp)
      | no hf2 =>
        simp -dsimp (maxDischargeDepth := 9) only [go_sem, Nat.reduceBEq, Nat.reduceLT, Nat.reduceAdd, Nat.reduceSub, Nat.reduceMul, Nat.reduceLeDiff, Int.reduceLE, Int.toNat_natCast, Int.natCast_nonneg, List.getElem?_map, List.length_map, Nat.zero_add, eq_self, Bool.not_true, Bool.not_false]
        exact retW_drop (hle1 _) (retW_is hK)
    | yes gs0 ls hf hL =>
      cases hG with
      | no hf2 => exact absurd (hf2.det hf) (by simp)
      | yes gs hf2 =>
        have := hf2.det hf
        simp at this; subst this
        clear hf2
        obtain ⟨hgood, hgl, hgt⟩ := hf.good
        have hkn := flowBad_known hgood
        have hns := hcok.n
        have hall : ∀ l ∈ ls, l.length < 1099511627776 := by
          intro l hl
          obtain ⟨q, hq⟩ := List.getElem?_of_mem hl
          have := rise_length (hL.rise l hl) 0 64 (fun y hy => by
            obtain ⟨r, rfl, hr⟩ := (hL.mem q l hq y).1 hy
            have := hr.lt hkn
            omega)
          omega
        simp -dsimp (maxDischargeDepth := 9) only [go_sem, Nat.reduceBEq, Nat.reduceLT, Nat.reduceAdd, Nat.reduceSub, Nat.reduceMul, Nat.reduceLeDiff, Int.reduceLE, Int.toNat_natCast, Int.natCast_nonneg, List.getElem?_map, List.length_map, Nat.zero_add, eq_self, Bool.not_true, Bool.not_false]
        refine andK_split rfl ?_
        simp -dsimp (maxDischargeDepth := 9) only [go_sem, Nat.reduceBEq, Nat.reduceLT, Nat.reduceAdd, Nat.reduceSub, Nat.reduceMul, Nat.reduceLeDiff, Int.reduceLE, Int.toNat_natCast, Int.natCast_nonneg, List.getElem?_map, List.length_map, Nat.zero_add, eq_self, Bool.not_true, Bool.not_false]
        refine andK_split rfl ?_
        simp -dsimp (maxDischargeDepth := 9) only [go_sem, Nat.reduceBEq, Nat.reduceLT, Nat.reduceAdd, Nat.reduceSub, Nat.reduceMul, Nat.reduceLeDiff, Int.reduceLE, Int.toNat_natCast, Int.natCast_nonneg, List.getElem?_map, List.length_map, Nat.zero_add, eq_self, Bool.not_true, Bool.not_false]
        refine reached_ok _ c hcok.n _ (fun rch hrl hrch => ?_)
        simp -dsimp (maxDischargeDepth := 9) only [go_sem, Nat.reduceBEq, Nat.reduceLT, Nat.reduceAdd, Nat.reduceSub, Nat.reduceMul, Nat.reduceLeDiff, Int.reduceLE, Int.toNat_natCast, Int.natCast_nonneg, List.getElem?_map, List.length_map, Nat.zero_add, eq_self, Bool.not_true, Bool.not_false, bools, intss]
        refine svc_loop (fun k : Nat => [(1, .ref b1 0), (3, .d (intss ls)), (5, .d (intss gs)), (51, .d (bools rch)), (52, .d (.int .i64 rch.length)), (53, .d (.int .i64 k))])
          (fun k G => k ≤ rch.length ∧ LeH (upd H b1 (.var (c.cs.map .d))) G) (fun k => rch.length - k) 0 _ ⟨Nat.zero_le _, .refl _⟩ (by simp -dsimp (maxDischargeDepth := 9) only [go_sem, Nat.reduceBEq, Nat.reduceLT, Nat.reduceAdd, Nat.reduceSub, Nat.reduceMul, Nat.reduceLeDiff, Int.reduceLE, Int.toNat_natCast, Int.natCast_nonneg, List.getElem?_map, List.length_map, Nat.zero_add, eq_self, Bool.not_true, Bool.not_false, intss, bools]) (by simp -dsimp (maxDischargeDepth := 9) only [go_sem, Nat.reduceBEq, Nat.reduceLT, Nat.reduceAdd, Nat.reduceSub, Nat.reduceMul, Nat.reduceLeDiff, Int.reduceLE, Int.toNat_natCast, Int.natCast_nonneg, List.getElem?_map, List.length_map, Nat.zero_add, eq_self, Bool.not_true, Bool.not_false, Cod.cs]; exact .refl _) ?_
        clear hn1 hm1
        rintro k G ⟨hk, hle⟩
        have hG1 := hle b1 _ (upd_same ..)
        simp -dsimp (maxDischargeDepth := 9) only [go_sem, Nat.reduceBEq, Nat.reduceLT, Nat.reduceAdd, Nat.reduceSub, Nat.reduceMul, Nat.reduceLeDiff, Int.reduceLE, Int.toNat_natCast, Int.natCast_nonneg, List.getElem?_map, List.length_map, Nat.zero_add, eq_self, Bool.not_true, Bool.not_false, bools, intss]
        refine gif_split (fun h1 => ?_) (fun h1 => ?_)
        · have hk' : k < rch.length := by simpa using h1
          obtain ⟨y, hy⟩ : ∃ y, rch[k]? = some y := ⟨rch[k], by simp [hk']⟩
          obtain ⟨l, hl⟩ : ∃ y, ls[k]? = some y := ⟨ls[k]'(by rw [hL.len]; omega), by simp⟩
          obtain ⟨g, hg⟩ : ∃ y, gs[k]? = some y := ⟨gs[k]'(by rw [hgl]; omega), by simp⟩
          obtain ⟨i, hi⟩ : ∃ y, c.body[k]? = some y := ⟨c.body[k]'(by omega), by simp⟩
          have hkl : k < ls.length := by rw [hL.len]; omega
          have hkg : k < gs.length := by rw [hgl]; omega
          have hkb : k < c.body.length := by omega
          have hw := wrapS (k := k) (by omega)
          cases y with
          | false =>
            have hnr : ¬ ReachAt c.body k := fun h => by have := (hrch k).2 h; rw [hy] at this; cases this
            have hl0 : l = [] := by
              cases l with
              | nil => rfl
              | cons x t =>
                obtain ⟨r, _, h⟩ := (hL.mem k _ hl x).1 (by simp)
                exact absurd h.reach hnr
            have hg0 : g = [] := hf.unreached hnr hkb hg
            subst hl0; subst hg0
            simp -dsimp (maxDischargeDepth := 9) only [go_sem, Nat.reduceBEq, Nat.reduceLT, Nat.reduceAdd, Nat.reduceSub, Nat.reduceMul, Nat.reduceLeDiff, Int.reduceLE, Int.toNat_natCast, Int.natCast_nonneg, List.getElem?_map, List.length_map, Nat.zero_add, eq_self, Bool.not_true, Bool.not_false, hy, hk', hl, hkl, hg, hkg, hw]
            exact roundQ_next (k + 1) G ⟨by omega, hle⟩ (by omega) (by simp -dsimp (maxDischargeDepth := 9) only [go_sem, Nat.reduceBEq, Nat.reduceLT, Nat.reduceAdd, Nat.reduceSub, Nat.reduceMul, Nat.reduceLeDiff, Int.reduceLE, Int.toNat_natCast, Int.natCast_nonneg, List.getElem?_map, List.length_map, Nat.zero_add, eq_self, Bool.not_true, Bool.not_false, intss, bools]) (.refl _)
          | true =>
            have hr := (hrch k).1 hy
            have hiok := hcok.body i (List.mem_of_getElem? hi)
            have hki := hkn k i hi
            simp -dsimp (maxDischargeDepth := 9) only [go_sem, Nat.reduceBEq, Nat.reduceLT, Nat.reduceAdd, Nat.reduceSub, Nat.reduceMul, Nat.reduceLeDiff, Int.reduceLE, Int.toNat_natCast, Int.natCast_nonneg, List.getElem?_map, List.length_map, Nat.zero_add, eq_self, Bool.not_true, Bool.not_false, hy, hk', hG1, Cod.cs, hi, hkb, Ins.d, Ins.cs]
            refine newK_intro (fun b9 hb9 hn9 hm9 => ?_)
            have e19 : eqn b1 b9 = false := hn9 b1 (by rw [hG1]; rfl)
            simp -dsimp (maxDischargeDepth := 9) only [go_sem, Nat.reduceBEq, Nat.reduceLT, Nat.reduceAdd, Nat.reduceSub, Nat.reduceMul, Nat.reduceLeDiff, Int.reduceLE, Int.toNat_natCast, Int.natCast_nonneg, List.getElem?_map, List.length_map, Nat.zero_add, eq_self, Bool.not_true, Bool.not_false, upd_upd, e19, hG1]
            refine newK_intro (fun b10 hb10 hn10 hm10 => ?_)
            have e1x : eqn b1 b10 = false := hn10 b1 (by rw [upd_ne _ _ (of_decide_eq_false e19), hG1]; rfl)
            have e9x : eqn b9 b10 = false := hn10 b9 (by rw [upd_same]; rfl)
            simp -dsimp (maxDischargeDepth := 9) only [go_sem, Nat.reduceBEq, Nat.reduceLT, Nat.reduceAdd, Nat.reduceSub, Nat.reduceMul, Nat.reduceLeDiff, Int.reduceLE, Int.toNat_natCast, Int.natCast_nonneg, List.getElem?_map, List.length_map, Nat.zero_add, eq_self, Bool.not_true, Bool.not_false, upd_upd, e19, e1x, e9x, hG1, Cod.cs]
            refine reads_ok _ c i hiok hcok.ins _ ?_
            simp -dsimp (maxDischargeDepth := 9) only [go_sem, Nat.reduceBEq, Nat.reduceLT, Nat.reduceAdd, Nat.reduceSub, Nat.reduceMul, Nat.reduceLeDiff, Int.reduceLE, Int.toNat_natCast, Int.natCast_nonneg, List.getElem?_map, List.length_map, Nat.zero_add, eq_self, Bool.not_true, Bool.not_false]
            generalize hB : upd H b1 (.var (c.cs.map .d)) = B at hle
            have hB1 : B b1 = some (.var (c.cs.map .d)) := by rw [← hB, upd_same]
            have hHB : LeH H B := by rw [← hB]; exact hle1 _
            have hB9 : B b9 = none := hle.free hb9
            have hB10 : upd B b9 (.var (i.cs.map .d)) b10 = none := LeH.free (leH_both hle) hb10
            have hleB : ∀ m : List (D × D), LeH B (upd (upd B b9 (.var (i.cs.map .d))) b10 (.map (.one (.int .i64)) m)) := fun m => leH_upd (LeH.free (leH_upd hB9 (.refl B)) hB10) (leH_upd hB9 (.refl B))
            have hrl2 := hrd i (List.mem_of_getElem? hi)
            refine svc_loop (X := Nat × List (D × D)) (fun x => [(1, .ref b1 0), (3, .d (intss ls)), (5, .d (intss gs)), (7, .d (.int .i64 k)), (9, .ref b9 0), (10, .mp b10), (51, .d (bools rch)), (52, .d (.int .i64 rch.length)), (53, .d (.int .i64 k)), (82, .d (ints (readsI c i))), (83, .d (.int .i64 (readsI c i).length)), (84, .d (.int .i64 x.1))])
              (fun x G => x.1 ≤ (readsI c i).length ∧ LeH (upd (upd B b9 (.var (i.cs.map .d))) b10 (.map (.one (.int .i64)) x.2)) G ∧ WantIs x.2 (fun y => y ∈ (readsI c i).take x.1)) (fun x => (readsI c i).length - x.1) (0, []) _
              ⟨Nat.zero_le _, leH_both (leH_both hle), WantIs.nil.congr (fun y => by simp)⟩ (by simp -dsimp (maxDischargeDepth := 9) only [go_sem, Nat.reduceBEq, Nat.reduceLT, Nat.reduceAdd, Nat.reduceSub, Nat.reduceMul, Nat.reduceLeDiff, Int.reduceLE, Int.toNat_natCast, Int.natCast_nonneg, List.getElem?_map, List.length_map, Nat.zero_add, eq_self, Bool.not_true, Bool.not_false, intss, bools]) (.refl _) ?_
            clear hle hG1 hb9 hn9 hm9 hb10 hn10 hm10
            rintro ⟨j, m⟩ G ⟨hj, hle, hm⟩
            simp only at hj hle hm
            have hG10 := hle b10 _ (upd_same ..)
            have hG9 : G b9 = some (.var (i.cs.map .d)) := hle b9 _ (by rw [upd_ne _ _ (of_decide_eq_false e9x), upd_same])
            have hG1 : G b1 = some (.var (c.cs.map .d)) := hle b1 _ (by rw [upd_ne _ _ (of_decide_eq_false e1x), upd_ne _ _ (of_decide_eq_false e19)]; exact hB1)
            simp -dsimp (maxDischargeDepth := 9) only [go_sem, Nat.reduceBEq, Nat.reduceLT, Nat.reduceAdd, Nat.reduceSub, Nat.reduceMul, Nat.reduceLeDiff, Int.reduceLE, Int.toNat_natCast, Int.natCast_nonneg, List.getElem?_map, List.length_map, Nat.zero_add, eq_self, Bool.not_true, Bool.not_false]
            refine gif_split (fun h2 => ?_) (fun h2 => ?_)
            · have hj' : j < (readsI c i).length := by simpa using h2
              obtain ⟨x, hx⟩ : ∃ x, (readsI c i)[j]? = some x := ⟨(readsI c i)[j], by simp⟩
              have hwj := wrapS (k := j) (by omega)
              simp -dsimp (maxDischargeDepth := 9) only [go_sem, Nat.reduceBEq, Nat.reduceLT, Nat.reduceAdd, Nat.reduceSub, Nat.reduceMul, Nat.reduceLeDiff, Int.reduceLE, Int.toNat_natCast, Int.natCast_nonneg, List.getElem?_map, List.length_map, Nat.zero_add, eq_self, Bool.not_true, Bool.not_false, ints, hx, hj', hG10, hwj]
              refine roundQ_next (j + 1, mput m (.int .i64 x) (.bool true)) _ ⟨by simp only; omega, ?_, (hm.put x).congr (fun y => take_mem hx y)⟩ (by simp only; omega) (by simp -dsimp (maxDischargeDepth := 9) only [go_sem, Nat.reduceBEq, Nat.reduceLT, Nat.reduceAdd, Nat.reduceSub, Nat.reduceMul, Nat.reduceLeDiff, Int.reduceLE, Int.toNat_natCast, Int.natCast_nonneg, List.getElem?_map, List.length_map, Nat.zero_add, eq_self, Bool.not_true, Bool.not_false, intss, bools, ints]) (.refl _)
              have := leH_both (b := b10) (o := .map (.one (.int .i64)) (mput m (.int .i64 x) (.bool true))) hle
              rw [upd_upd] at this
              exact this
            have hj' : j = (readsI c i).length := by simp at h2; omega
            subst hj'
            rw [List.take_length] at hm
            simp -dsimp (maxDischargeDepth := 9) only [go_sem, Nat.reduceBEq, Nat.reduceLT, Nat.reduceAdd, Nat.reduceSub, Nat.reduceMul, Nat.reduceLeDiff, Int.reduceLE, Int.toNat_natCast, Int.natCast_nonneg, List.getElem?_map, List.length_map, Nat.zero_add, eq_self, Bool.not_true, Bool.not_false, hG9, Ins.cs]
            have hk0 : (0 : Int) ≤ (k : Int) := by omega
            have hk1 : (k : Int) < 1099511627776 := by omega
            refine (fun (key : (?T : Prop)) => ?main) ?rest
            case main =>
              have hleX : LeH (upd B b10 (.map (.one (.int .i64)) m)) G := (leH_both (leH_upd hB9 (.refl B))).trans hle
              by_cases hcond : ¬ (g ≠ [] ∧ raisesI i.op = true)
              · have hpl : g = [] ∨ raisesI i.op = false := by
                  by_cases hgn : g = []
                  · exact .inl hgn
                  · exact .inr (by simpa [hgn] using hcond)
                have hgood2 := goes2_plain hr hi hki hiok hg hpl
                refine goes_ok _ (k : Int) hk0 hk1 i _ ?_
                simp -dsimp (maxDischargeDepth := 9) only [go_sem, Nat.reduceBEq, Nat.reduceLT, Nat.reduceAdd, Nat.reduceSub, Nat.reduceMul, Nat.reduceLeDiff, Int.reduceLE, Int.toNat_natCast, Int.natCast_nonneg, List.getElem?_map, List.length_map, Nat.zero_add, eq_self, Bool.not_true, Bool.not_false, intss, hg, hkg]
                refine gif_split (fun h3 => ?_) (fun h3 => ?_)
                · have hra : raisesI i.op = false := by
                    rcases hpl with rfl | h
                    · simp at h3
                    · exact h
                  simp only [raisesI, Bool.or_eq_false_iff] at hra
                  obtain ⟨⟨⟨h8, h4⟩, h15⟩, h10⟩ := hra
                  simp -dsimp (maxDischargeDepth := 9) only [go_sem, Nat.reduceBEq, Nat.reduceLT, Nat.reduceAdd, Nat.reduceSub, Nat.reduceMul, Nat.reduceLeDiff, Int.reduceLE, Int.toNat_natCast, Int.natCast_nonneg, List.getElem?_map, List.length_map, Nat.zero_add, eq_self, Bool.not_true, Bool.not_false, h3, hG9, Ins.cs, h8, h4, h15, h10]
                  refine svc_loop (X := Nat × List (D × D) × List Int × List (List Int)) (fun x => [(1, .ref b1 0), (3, .d (intss ls)), (5, .d (intss gs)), (7, .d (.int .i64 k)), (10, .mp b10), (14, .d (.slice (x.2.2.2.map ints))), (51, .d (bools rch)), (52, .d (.int .i64 rch.length)), (53, .d (.int .i64 k)), (145, .d (ints x.2.2.1)), (146, .d (.int .i64 x.2.2.1.length)), (147, .d (.int .i64 x.1))])
                    (fun x G => x.1 ≤ x.2.2.1.length ∧ LeH (upd B b10 (.map (.one (.int .i64)) x.2.1)) G ∧ WantIs x.2.1 (Want4 c i ls x.2.2.1 x.2.2.2 x.1) ∧ Goes2 c gs k i x.2.2.1 x.2.2.2) (fun x => x.2.2.1.length - x.1) (0, m, goesI k i, butI i) _
                    ⟨Nat.zero_le _, hleX, hm.congr (want4_zero c i ls _ _), hgood2⟩ ?_ (.refl _) ?_
                  rotate_right
                  · exact key
                  · simp -dsimp (maxDischargeDepth := 9) only [go_sem, Nat.reduceBEq, Nat.reduceLT, Nat.reduceAdd, Nat.reduceSub, Nat.reduceMul, Nat.reduceLeDiff, Int.reduceLE, Int.toNat_natCast, Int.natCast_nonneg, List.getElem?_map, List.length_map, Nat.zero_add, eq_self, Bool.not_true, Bool.not_false, intss, bools]
                · simp -dsimp (maxDischargeDepth := 9) only [go_sem, Nat.reduceBEq, Nat.reduceLT, Nat.reduceAdd, Nat.reduceSub, Nat.reduceMul, Nat.reduceLeDiff, Int.reduceLE, Int.toNat_natCast, Int.natCast_nonneg, List.getElem?_map, List.length_map, Nat.zero_add, eq_self, Bool.not_true, Bool.not_false, h3]
                  refine svc_loop (X := Nat × List (D × D) × List Int × List (List Int)) (fun x => [(1, .ref b1 0), (3, .d (intss ls)), (5, .d (intss gs)), (7, .d (.int .i64 k)), (10, .mp b10), (14, .d (.slice (x.2.2.2.map ints))), (51, .d (bools rch)), (52, .d (.int .i64 rch.length)), (53, .d (.int .i64 k)), (145, .d (ints x.2.2.1)), (146, .d (.int .i64 x.2.2.1.length)), (147, .d (.int .i64 x.1))])
                    (fun x G => x.1 ≤ x.2.2.1.length ∧ LeH (upd B b10 (.map (.one (.int .i64)) x.2.1)) G ∧ WantIs x.2.1 (Want4 c i ls x.2.2.1 x.2.2.2 x.1) ∧ Goes2 c gs k i x.2.2.1 x.2.2.2) (fun x => x.2.2.1.length - x.1) (0, m, goesI k i, butI i) _
                    ⟨Nat.zero_le _, hleX, hm.congr (want4_zero c i ls _ _), hgood2⟩ ?_ (.refl _) ?_
                  rotate_right
                  · exact key
                  · simp -dsimp (maxDischargeDepth := 9) only [go_sem, Nat.reduceBEq, Nat.reduceLT, Nat.reduceAdd, Nat.reduceSub, Nat.reduceMul, Nat.reduceLeDiff, Int.reduceLE, Int.toNat_natCast, Int.natCast_nonneg, List.getElem?_map, List.length_map, Nat.zero_add, eq_self, Bool.not_true, Bool.not_false, intss, bools]
              · obtain ⟨hgn, hra⟩ := Classical.not_not.1 hcond
                have hgl0 : 0 < g.length := List.length_pos_iff.2 hgn
                obtain ⟨a0, ha0⟩ : ∃ a, g.getLast? = some a := ⟨g.getLast hgn, List.getLast?_eq_some_getLast hgn⟩
                obtain ⟨ha00, tr, htr, h16⟩ := (hgt g (List.mem_of_getElem? hg)).1 a0 (List.mem_of_getLast? ha0)
                obtain ⟨a, rfl⟩ : ∃ n : Nat, a0 = n := ⟨a0.toNat, by omega⟩
                rw [Int.toNat_natCast] at htr
                have hgood2 := goes2_guard hr hi hki hiok hg hra ha0 htr (hkn a tr htr) h16
                have h3 : decide ((0 : Int) < (g.length : Int)) = true := decide_eq_true (by omega)
                have hop : (decide (i.op = 8) = true) ∨ (decide (i.op = 8) = false ∧ decide (i.op = 4) = true) ∨ (decide (i.op = 8) = false ∧ decide (i.op = 4) = false ∧ decide (i.op = 15) = true) ∨
                    (decide (i.op = 8) = false ∧ decide (i.op = 4) = false ∧ decide (i.op = 15) = false ∧ decide (i.op = 10) = true) := by
                  revert hra
                  unfold raisesI
                  generalize decide (i.op = 8) = q8; generalize decide (i.op = 4) = q4; generalize decide (i.op = 15) = q15; generalize decide (i.op = 10) = q10
                  revert q8 q4 q15 q10
                  decide
                have hal : a < c.body.length := (List.getElem?_eq_some_iff.1 htr).1
                have hgm : (g.length : Int) - 1 = ((g.length - 1 : Nat) : Int) := by omega
                have hgw : IntKind.i64.wrap ((g.length : Int) - 1) = ((g.length - 1 : Nat) : Int) := by rw [wrap64 (by omega) (by have := (hgt g (List.mem_of_getElem? hg)).2; omega)]; omega
                have hga : g[g.length - 1]? = some (a : Int) := by rw [← List.getLast?_eq_getElem?]; exact ha0
                have hgl1 : g.length - 1 < g.length := by omega
                refine goes_own _ (k : Int) hk0 hk1 i hra _ (fun ta tb G2 hT => ?_)
                have hle2 : LeH G G2 := by cases hT <;> assumption
                have hG9' := hle2 _ _ hG9
                have hG1' := hle2 _ _ hG1
                have hleX2 := hleX.trans hle2
                simp -dsimp (maxDischargeDepth := 9) only [go_sem, Nat.reduceBEq, Nat.reduceLT, Nat.reduceAdd, Nat.reduceSub, Nat.reduceMul, Nat.reduceLeDiff, Int.reduceLE, Int.toNat_natCast, Int.natCast_nonneg, List.getElem?_map, List.length_map, Nat.zero_add, eq_self, Bool.not_true, Bool.not_false, intss, hg, hkg, h3]
                refine (fun (key2 : (?T2 : Prop)) => ?main2) ?rest2
                case main2 =>
                  rcases hop with h8 | ⟨h8, h4⟩ | ⟨h8, h4, h15⟩ | ⟨h8, h4, h15, h10⟩
                  · simp -dsimp (maxDischargeDepth := 9) only [go_sem, Nat.reduceBEq, Nat.reduceLT, Nat.reduceAdd, Nat.reduceSub, Nat.reduceMul, Nat.reduceLeDiff, Int.reduceLE, Int.toNat_natCast, Int.natCast_nonneg, List.getElem?_map, List.length_map, Nat.zero_add, eq_self, Bool.not_true, Bool.not_false, hG9', Ins.cs, h8, hG1', Cod.cs, hgw, hga, hgl1, ints, htr, hal, Ins.d]
                    exact key2
                  · simp -dsimp (maxDischargeDepth := 9) only [go_sem, Nat.reduceBEq, Nat.reduceLT, Nat.reduceAdd, Nat.reduceSub, Nat.reduceMul, Nat.reduceLeDiff, Int.reduceLE, Int.toNat_natCast, Int.natCast_nonneg, List.getElem?_map, List.length_map, Nat.zero_add, eq_self, Bool.not_true, Bool.not_false, hG9', Ins.cs, h8, h4, hG1', Cod.cs, hgw, hga, hgl1, ints, htr, hal, Ins.d]
                    exact key2
                  · simp -dsimp (maxDischargeDepth := 9) only [go_sem, Nat.reduceBEq, Nat.reduceLT, Nat.reduceAdd, Nat.reduceSub, Nat.reduceMul, Nat.reduceLeDiff, Int.reduceLE, Int.toNat_natCast, Int.natCast_nonneg, List.getElem?_map, List.length_map, Nat.zero_add, eq_self, Bool.not_true, Bool.not_false, hG9', Ins.cs, h8, h4, h15, hG1', Cod.cs, hgw, hga, hgl1, ints, htr, hal, Ins.d]
                    exact key2
                  · simp -dsimp (maxDischargeDepth := 9) only [go_sem, Nat.reduceBEq, Nat.reduceLT, Nat.reduceAdd, Nat.reduceSub, Nat.reduceMul, Nat.reduceLeDiff, Int.reduceLE, Int.toNat_natCast, Int.natCast_nonneg, List.getElem?_map, List.length_map, Nat.zero_add, eq_self, Bool.not_true, Bool.not_false, hG9', Ins.cs, h8, h4, h15, h10, hG1', Cod.cs, hgw, hga, hgl1, ints, htr, hal, Ins.d]
                    exact key2
                case rest2 =>
                  refine newK_intro (fun b16 hb16 hn16 hm16 => ?_)
                  have e116 : eqn b1 b16 = false := hn16 b1 (by rw [hG1']; rfl)
                  simp -dsimp (maxDischargeDepth := 9) only [go_sem, Nat.reduceBEq, Nat.reduceLT, Nat.reduceAdd, Nat.reduceSub, Nat.reduceMul, Nat.reduceLeDiff, Int.reduceLE, Int.toNat_natCast, Int.natCast_nonneg, List.getElem?_map, List.length_map, Nat.zero_add, eq_self, Bool.not_true, Bool.not_false, e116, hG1', Cod.cs, hgw, hga, hgl1, htr, hal, Ins.d, Ins.cs, ints, upd_upd]
                  have hgl2 := goesI_length k i
                  have hWant := hm
                  have hbl2 := butI_length k i
                  have hNf : ∀ b, G2 b = none → upd B b10 (.map (.one (.int .i64)) m) b = none := fun b h => hleX2.free h
                  cases hT with
                  | nils _ _ hl1 hl2 =>
                    clear h16 htr hG1' hG9' hG1 hG9
                    repeat' (first | (refine gif_split (fun h => ?_) (fun h => ?_) <;> (try simp -dsimp (maxDischargeDepth := 9) only [go_sem, Nat.reduceBEq, Nat.reduceLT, Nat.reduceAdd, Nat.reduceSub, Nat.reduceMul, Nat.reduceLeDiff, Int.reduceLE, Int.toNat_natCast, Int.natCast_nonneg, List.getElem?_map, List.length_map, Nat.zero_add, eq_self, Bool.not_true, Bool.not_false, *])) | (refine newV_intro (fun b v hb hn hm hv => ?_); (try simp -dsimp (maxDischargeDepth := 9) only [go_sem, Nat.reduceBEq, Nat.reduceLT, Nat.reduceAdd, Nat.reduceSub, Nat.reduceMul, Nat.reduceLeDiff, Int.reduceLE, Int.toNat_natCast, Int.natCast_nonneg, List.getElem?_map, List.length_map, Nat.zero_add, eq_self, Bool.not_true, Bool.not_false, *])) | (refine newK_intro (fun b hb hn hm => ?_); (try simp -dsimp (maxDischargeDepth := 9) only [go_sem, Nat.reduceBEq, Nat.reduceLT, Nat.reduceAdd, Nat.reduceSub, Nat.reduceMul, Nat.reduceLeDiff, Int.reduceLE, Int.toNat_natCast, Int.natCast_nonneg, List.getElem?_map, List.length_map, Nat.zero_add, eq_self, Bool.not_true, Bool.not_false, *])) | (refine growV_intro (fun b v hb hn hm hv => ?_); (try simp -dsimp (maxDischargeDepth := 9) only [go_sem, Nat.reduceBEq, Nat.reduceLT, Nat.reduceAdd, Nat.reduceSub, Nat.reduceMul, Nat.reduceLeDiff, Int.reduceLE, Int.toNat_natCast, Int.natCast_nonneg, List.getElem?_map, List.length_map, Nat.zero_add, eq_self, Bool.not_true, Bool.not_false, *])) | (refine andK_split (by omega) ?_; (try simp -dsimp (maxDischargeDepth := 9) only [go_sem, Nat.reduceBEq, Nat.reduceLT, Nat.reduceAdd, Nat.reduceSub, Nat.reduceMul, Nat.reduceLeDiff, Int.reduceLE, Int.toNat_natCast, Int.natCast_nonneg, List.getElem?_map, List.length_map, Nat.zero_add, eq_self, Bool.not_true, Bool.not_false, *])) | (refine nilQ_intro ?_ (fun h => ?_) <;> (try simp -dsimp (maxDischargeDepth := 9) only [go_sem, Nat.reduceBEq, Nat.reduceLT, Nat.reduceAdd, Nat.reduceSub, Nat.reduceMul, Nat.reduceLeDiff, Int.reduceLE, Int.toNat_natCast, Int.natCast_nonneg, List.getElem?_map, List.length_map, Nat.zero_add, eq_self, Bool.not_true, Bool.not_false, *])) | (refine And.intro ?_ ?_ <;> (try simp -dsimp (maxDischargeDepth := 9) only [go_sem, Nat.reduceBEq, Nat.reduceLT, Nat.reduceAdd, Nat.reduceSub, Nat.reduceMul, Nat.reduceLeDiff, Int.reduceLE, Int.toNat_natCast, Int.natCast_nonneg, List.getElem?_map, List.length_map, Nat.zero_add, eq_self, Bool.not_true, Bool.not_false, *])) | (refine (fun (v : Value) (hv : v.ownBlock = some _) => ?_); (try simp -dsimp (maxDischargeDepth := 9) only [go_sem, Nat.reduceBEq, Nat.reduceLT, Nat.reduceAdd, Nat.reduceSub, Nat.reduceMul, Nat.reduceLeDiff, Int.reduceLE, Int.toNat_natCast, Int.natCast_nonneg, List.getElem?_map, List.length_map, Nat.zero_add, eq_self, Bool.not_true, Bool.not_false, *])))
                    all_goals
                      (refine svc_deep 145 (by first | decide | exact of_decide_eq_true rfl) ?_
                       simp -dsimp (maxDischargeDepth := 9) only [go_sem, Nat.reduceBEq, Nat.reduceLT, Nat.reduceAdd, Nat.reduceSub, Nat.reduceMul, Nat.reduceLeDiff, Int.reduceLE, Int.toNat_natCast, Int.natCast_nonneg, List.getElem?_map, List.length_map, Nat.zero_add, eq_self, Bool.not_true, Bool.not_false, *]
                       refine svc_deep 14 (by first | decide | exact of_decide_eq_true rfl) ?_
                       simp -dsimp (maxDischargeDepth := 9) only [go_sem, Nat.reduceBEq, Nat.reduceLT, Nat.reduceAdd, Nat.reduceSub, Nat.reduceMul, Nat.reduceLeDiff, Int.reduceLE, Int.toNat_natCast, Int.natCast_nonneg, List.getElem?_map, List.length_map, Nat.zero_add, eq_self, Bool.not_true, Bool.not_false, *]
                       refine svc_loop (X := Nat × List (D × D) × List Int × List (List Int)) (fun x => [(1, .ref b1 0), (3, .d (intss ls)), (5, .d (intss gs)), (7, .d (.int .i64 k)), (10, .mp b10), (14, .d (.slice (x.2.2.2.map ints))), (51, .d (bools rch)), (52, .d (.int .i64 rch.length)), (53, .d (.int .i64 k)), (145, .d (ints x.2.2.1)), (146, .d (.int .i64 x.2.2.1.length)), (147, .d (.int .i64 x.1))])
                         (fun x G => x.1 ≤ x.2.2.1.length ∧ LeH (upd B b10 (.map (.one (.int .i64)) x.2.1)) G ∧ WantIs x.2.1 (Want4 c i ls x.2.2.1 x.2.2.2 x.1) ∧ Goes2 c gs k i x.2.2.1 x.2.2.2) (fun x => x.2.2.1.length - x.1) (0, m, goesI k i ++ [tr.l], butI i ++ [[tr.a]]) _
                         ⟨Nat.zero_le _, ?_, hWant.congr (want4_zero c i ls _ _), hgood2⟩ ?_ (.refl _) ?_
                       rotate_right
                       · exact key
                       · repeat' (first | exact hleX2 | refine LeH.up ?_ (by assumption) | refine leH_grow ?_ (by assumption) (by assumption) | refine leH_upd (LeH.free ?_ (by assumption)) ?_ | refine leH_upd (leH_fresh ?_ (by assumption) (by assumption)) ?_)
                       · simp -dsimp (maxDischargeDepth := 9) only [go_sem, Nat.reduceBEq, Nat.reduceLT, Nat.reduceAdd, Nat.reduceSub, Nat.reduceMul, Nat.reduceLeDiff, Int.reduceLE, Int.toNat_natCast, Int.natCast_nonneg, List.getElem?_map, List.length_map, Nat.zero_add, eq_self, Bool.not_true, Bool.not_false, intss, bools, ints]
                         simp [hl1, hl2, ints, hrl])
                  | own d1 v1 d2 v2 _ _ hn1 hn2 hne hv1 hv2 hd1 hd2 =>
                    have e12 : eqn d1 d2 = false := decide_eq_false hne
                    have e21 : eqn d2 d1 = false := decide_eq_false (Ne.symm hne)
                    have hN1 := hleX.free hn1
                    have hN2 := hleX.free hn2
                    clear h16 htr hG1' hG9' hG1 hG9
                    repeat' (first | (refine gif_split (fun h => ?_) (fun h => ?_) <;> (try simp -dsimp (maxDischargeDepth := 9) only [go_sem, Nat.reduceBEq, Nat.reduceLT, Nat.reduceAdd, Nat.reduceSub, Nat.reduceMul, Nat.reduceLeDiff, Int.reduceLE, Int.toNat_natCast, Int.natCast_nonneg, List.getElem?_map, List.length_map, Nat.zero_add, eq_self, Bool.not_true, Bool.not_false, *])) | (refine newV_intro (fun b v hb hn hm hv => ?_); (try simp -dsimp (maxDischargeDepth := 9) only [go_sem, Nat.reduceBEq, Nat.reduceLT, Nat.reduceAdd, Nat.reduceSub, Nat.reduceMul, Nat.reduceLeDiff, Int.reduceLE, Int.toNat_natCast, Int.natCast_nonneg, List.getElem?_map, List.length_map, Nat.zero_add, eq_self, Bool.not_true, Bool.not_false, *])) | (refine newK_intro (fun b hb hn hm => ?_); (try simp -dsimp (maxDischargeDepth := 9) only [go_sem, Nat.reduceBEq, Nat.reduceLT, Nat.reduceAdd, Nat.reduceSub, Nat.reduceMul, Nat.reduceLeDiff, Int.reduceLE, Int.toNat_natCast, Int.natCast_nonneg, List.getElem?_map, List.length_map, Nat.zero_add, eq_self, Bool.not_true, Bool.not_false, *])) | (refine growV_intro (fun b v hb hn hm hv => ?_); (try simp -dsimp (maxDischargeDepth := 9) only [go_sem, Nat.reduceBEq, Nat.reduceLT, Nat.reduceAdd, Nat.reduceSub, Nat.reduceMul, Nat.reduceLeDiff, Int.reduceLE, Int.toNat_natCast, Int.natCast_nonneg, List.getElem?_map, List.length_map, Nat.zero_add, eq_self, Bool.not_true, Bool.not_false, *])) | (refine andK_split (by omega) ?_; (try simp -dsimp (maxDischargeDepth := 9) only [go_sem, Nat.reduceBEq, Nat.reduceLT, Nat.reduceAdd, Nat.reduceSub, Nat.reduceMul, Nat.reduceLeDiff, Int.reduceLE, Int.toNat_natCast, Int.natCast_nonneg, List.getElem?_map, List.length_map, Nat.zero_add, eq_self, Bool.not_true, Bool.not_false, *])) | (refine nilQ_intro ?_ (fun h => ?_) <;> (try simp -dsimp (maxDischargeDepth := 9) only [go_sem, Nat.reduceBEq, Nat.reduceLT, Nat.reduceAdd, Nat.reduceSub, Nat.reduceMul, Nat.reduceLeDiff, Int.reduceLE, Int.toNat_natCast, Int.natCast_nonneg, List.getElem?_map, List.length_map, Nat.zero_add, eq_self, Bool.not_true, Bool.not_false, *])) | (refine And.intro ?_ ?_ <;> (try simp -dsimp (maxDischargeDepth := 9) only [go_sem, Nat.reduceBEq, Nat.reduceLT, Nat.reduceAdd, Nat.reduceSub, Nat.reduceMul, Nat.reduceLeDiff, Int.reduceLE, Int.toNat_natCast, Int.natCast_nonneg, List.getElem?_map, List.length_map, Nat.zero_add, eq_self, Bool.not_true, Bool.not_false, *])) | (refine (fun (v : Value) (hv : v.ownBlock = some _) => ?_); (try simp -dsimp (maxDischargeDepth := 9) only [go_sem, Nat.reduceBEq, Nat.reduceLT, Nat.reduceAdd, Nat.reduceSub, Nat.reduceMul, Nat.reduceLeDiff, Int.reduceLE, Int.toNat_natCast, Int.natCast_nonneg, List.getElem?_map, List.length_map, Nat.zero_add, eq_self, Bool.not_true, Bool.not_false, *])))
                    all_goals
                      (refine svc_deep 145 (by first | decide | exact of_decide_eq_true rfl) ?_
                       simp -dsimp (maxDischargeDepth := 9) only [go_sem, Nat.reduceBEq, Nat.reduceLT, Nat.reduceAdd, Nat.reduceSub, Nat.reduceMul, Nat.reduceLeDiff, Int.reduceLE, Int.toNat_natCast, Int.natCast_nonneg, List.getElem?_map, List.length_map, Nat.zero_add, eq_self, Bool.not_true, Bool.not_false, *]
                       refine svc_deep 14 (by first | decide | exact of_decide_eq_true rfl) ?_
                       simp -dsimp (maxDischargeDepth := 9) only [go_sem, Nat.reduceBEq, Nat.reduceLT, Nat.reduceAdd, Nat.reduceSub, Nat.reduceMul, Nat.reduceLeDiff, Int.reduceLE, Int.toNat_natCast, Int.natCast_nonneg, List.getElem?_map, List.length_map, Nat.zero_add, eq_self, Bool.not_true, Bool.not_false, *]
                       refine svc_loop (X := Nat × List (D × D) × List Int × List (List Int)) (fun x => [(1, .ref b1 0), (3, .d (intss ls)), (5, .d (intss gs)), (7, .d (.int .i64 k)), (10, .mp b10), (14, .d (.slice (x.2.2.2.map ints))), (51, .d (bools rch)), (52, .d (.int .i64 rch.length)), (53, .d (.int .i64 k)), (145, .d (ints x.2.2.1)), (146, .d (.int .i64 x.2.2.1.length)), (147, .d (.int .i64 x.1))])
                         (fun x G => x.1 ≤ x.2.2.1.length ∧ LeH (upd B b10 (.map (.one (.int .i64)) x.2.1)) G ∧ WantIs x.2.1 (Want4 c i ls x.2.2.1 x.2.2.2 x.1) ∧ Goes2 c gs k i x.2.2.1 x.2.2.2) (fun x => x.2.2.1.length - x.1) (0, m, goesI k i ++ [tr.l], butI i ++ [[tr.a]]) _
                         ⟨Nat.zero_le _, ?_, hWant.congr (want4_zero c i ls _ _), hgood2⟩ ?_ (.refl _) ?_
                       rotate_right
                       · exact key
                       · repeat' (first | exact hleX2 | refine LeH.up ?_ (by assumption) | refine leH_grow ?_ (by assumption) (by assumption) | refine leH_upd (LeH.free ?_ (by assumption)) ?_ | refine leH_upd (leH_fresh ?_ (by assumption) (by assumption)) ?_)
                       · simp -dsimp (maxDischargeDepth := 9) only [go_sem, Nat.reduceBEq, Nat.reduceLT, Nat.reduceAdd, Nat.reduceSub, Nat.reduceMul, Nat.reduceLeDiff, Int.reduceLE, Int.toNat_natCast, Int.natCast_nonneg, List.getElem?_map, List.length_map, Nat.zero_add, eq_self, Bool.not_true, Bool.not_false, intss, bools, ints]
                         simp [ints, hrl])
            case rest =>
              have hBx : B b10 = none := (upd_eq_none.1 hB10).2
              clear hle hG10 hG9 hG1 hm hj h2 m G hleB hB10 e9x
              rintro ⟨j, m, tos, buts⟩ G ⟨hj, hle, hm, hgd⟩
              simp only at hj hle hm hgd
              have hG10 := hle b10 _ (upd_same ..)
              have hshort := hgd.short
              simp -dsimp (maxDischargeDepth := 9) only [go_sem, Nat.reduceBEq, Nat.reduceLT, Nat.reduceAdd, Nat.reduceSub, Nat.reduceMul, Nat.reduceLeDiff, Int.reduceLE, Int.toNat_natCast, Int.natCast_nonneg, List.getElem?_map, List.length_map, Nat.zero_add, eq_self, Bool.not_true, Bool.not_false]
              refine gif_split (fun h2 => ?_) (fun h2 => ?_)
              · have hj' : j < tos.length := by simpa using h2
                obtain ⟨t, ht⟩ : ∃ x, tos[j]? = some x := ⟨tos[j], by simp⟩
                obtain ⟨but, hbut⟩ : ∃ x, buts[j]? = some x := ⟨buts[j]'(by rw [hgd.len]; exact hj'), by simp⟩
                have hjb : j < buts.length := by rw [hgd.len]; exact hj'
                obtain ⟨n, rfl, hn⟩ := hgd.rng j t ht
                obtain ⟨lt, hlt⟩ : ∃ x, ls[n]? = some x := ⟨ls[n]'(by rw [hL.len]; exact hn), by simp⟩
                have hnl : n < ls.length := by rw [hL.len]; exact hn
                have hwj := wrapS (k := j) (by omega)
                have hltl : lt.length < 1099511627776 := hall lt (List.mem_of_getElem? hlt)
                have hbl := hgd.bl but (List.mem_of_getElem? hbut)
                simp -dsimp (maxDischargeDepth := 9) only [go_sem, Nat.reduceBEq, Nat.reduceLT, Nat.reduceAdd, Nat.reduceSub, Nat.reduceMul, Nat.reduceLeDiff, Int.reduceLE, Int.toNat_natCast, Int.natCast_nonneg, List.getElem?_map, List.length_map, Nat.zero_add, eq_self, Bool.not_true, Bool.not_false, ints, ht, hj', intss, hlt, hnl]
                refine svc_loop (X := Nat × List (D × D)) (fun x => [(1, .ref b1 0), (3, .d (intss ls)), (5, .d (intss gs)), (7, .d (.int .i64 k)), (10, .mp b10), (14, .d (.slice (buts.map ints))), (17, .d (.int .i64 j)), (51, .d (bools rch)), (52, .d (.int .i64 rch.length)), (53, .d (.int .i64 k)), (145, .d (ints tos)), (146, .d (.int .i64 tos.length)), (147, .d (.int .i64 j)), (155, .d (ints lt)), (156, .d (.int .i64 lt.length)), (157, .d (.int .i64 x.1))])
                  (fun x G => x.1 ≤ lt.length ∧ LeH (upd B b10 (.map (.one (.int .i64)) x.2)) G ∧ WantIs x.2 (fun y => Want4 c i ls tos buts j y ∨ (y ∈ lt.take x.1 ∧ y ∉ but))) (fun x => lt.length - x.1) (0, m) _
                  ⟨Nat.zero_le _, hle, hm.congr (fun y => by simp)⟩ (by simp -dsimp (maxDischargeDepth := 9) only [go_sem, Nat.reduceBEq, Nat.reduceLT, Nat.reduceAdd, Nat.reduceSub, Nat.reduceMul, Nat.reduceLeDiff, Int.reduceLE, Int.toNat_natCast, Int.natCast_nonneg, List.getElem?_map, List.length_map, Nat.zero_add, eq_self, Bool.not_true, Bool.not_false, intss, bools, ints]) (.refl _) ?_
                clear hle hG10 hm
                rintro ⟨q, m⟩ G ⟨hq, hle, hm⟩
                simp only at hq hle hm
                have hG10 := hle b10 _ (upd_same ..)
                simp -dsimp (maxDischargeDepth := 9) only [go_sem, Nat.reduceBEq, Nat.reduceLT, Nat.reduceAdd, Nat.reduceSub, Nat.reduceMul, Nat.reduceLeDiff, Int.reduceLE, Int.toNat_natCast, Int.natCast_nonneg, List.getElem?_map, List.length_map, Nat.zero_add, eq_self, Bool.not_true, Bool.not_false]
                refine gif_split (fun h4 => ?_) (fun h4 => ?_)
                · have hq' : q < lt.length := by simpa using h4
                  obtain ⟨y, hyq⟩ : ∃ x, lt[q]? = some x := ⟨lt[q], by simp⟩
                  have hwq := wrapS (k := q) (by omega)
                  simp -dsimp (maxDischargeDepth := 9) only [go_sem, Nat.reduceBEq, Nat.reduceLT, Nat.reduceAdd, Nat.reduceSub, Nat.reduceMul, Nat.reduceLeDiff, Int.reduceLE, Int.toNat_natCast, Int.natCast_nonneg, List.getElem?_map, List.length_map, Nat.zero_add, eq_self, Bool.not_true, Bool.not_false, ints, hyq, hq', hbut, hjb]
                  refine in_ok _ but y hbl _ ?_
                  simp -dsimp (maxDischargeDepth := 9) only [go_sem, Nat.reduceBEq, Nat.reduceLT, Nat.reduceAdd, Nat.reduceSub, Nat.reduceMul, Nat.reduceLeDiff, Int.reduceLE, Int.toNat_natCast, Int.natCast_nonneg, List.getElem?_map, List.length_map, Nat.zero_add, eq_self, Bool.not_true, Bool.not_false]
                  refine gif_split (fun h5 => ?_) (fun h5 => ?_)
                  · have hnb : y ∉ but := fun h => by rw [List.contains_iff_mem.2 h] at h5; cases h5
                    simp -dsimp (maxDischargeDepth := 9) only [go_sem, Nat.reduceBEq, Nat.reduceLT, Nat.reduceAdd, Nat.reduceSub, Nat.reduceMul, Nat.reduceLeDiff, Int.reduceLE, Int.toNat_natCast, Int.natCast_nonneg, List.getElem?_map, List.length_map, Nat.zero_add, eq_self, Bool.not_true, Bool.not_false, hG10, hwq]
                    refine roundQ_next (q + 1, mput m (.int .i64 y) (.bool true)) _ ⟨by simp only; omega, ?_, (hm.put y).congr (fun z => ?_)⟩ (by simp only; omega) (by simp -dsimp (maxDischargeDepth := 9) only [go_sem, Nat.reduceBEq, Nat.reduceLT, Nat.reduceAdd, Nat.reduceSub, Nat.reduceMul, Nat.reduceLeDiff, Int.reduceLE, Int.toNat_natCast, Int.natCast_nonneg, List.getElem?_map, List.length_map, Nat.zero_add, eq_self, Bool.not_true, Bool.not_false, intss, bools, ints]) (.refl _)
                    · have := leH_both (b := b10) (o := .map (.one (.int .i64)) (mput m (.int .i64 y) (.bool true))) hle
                      rw [upd_upd] at this
                      exact this
                    · rw [or_assoc, ← take_mem hyq z]
                      constructor
                      · rintro (h | h | rfl)
                        · exact .inl h
                        · exact .inr ⟨.inl h.1, h.2⟩
                        · exact .inr ⟨.inr rfl, hnb⟩
                      · rintro (h | ⟨h | rfl, h'⟩)
                        · exact .inl h
                        · exact .inr (.inl ⟨h, h'⟩)
                        · exact .inr (.inr rfl)
                  · have hyb : y ∈ but := by
                      have : but.contains y = true := by simpa using h5
                      exact List.contains_iff_mem.1 this
                    simp -dsimp (maxDischargeDepth := 9) only [go_sem, Nat.reduceBEq, Nat.reduceLT, Nat.reduceAdd, Nat.reduceSub, Nat.reduceMul, Nat.reduceLeDiff, Int.reduceLE, Int.toNat_natCast, Int.natCast_nonneg, List.getElem?_map, List.length_map, Nat.zero_add, eq_self, Bool.not_true, Bool.not_false, hwq]
                    refine roundQ_next (q + 1, m) _ ⟨by simp only; omega, hle, hm.congr (fun z => ?_)⟩ (by simp only; omega) (by simp -dsimp (maxDischargeDepth := 9) only [go_sem, Nat.reduceBEq, Nat.reduceLT, Nat.reduceAdd, Nat.reduceSub, Nat.reduceMul, Nat.reduceLeDiff, Int.reduceLE, Int.toNat_natCast, Int.natCast_nonneg, List.getElem?_map, List.length_map, Nat.zero_add, eq_self, Bool.not_true, Bool.not_false, intss, bools, ints]) (.refl _)
                    rw [← take_mem hyq z]
                    constructor
                    · rintro (h | h)
                      · exact .inl h
                      · exact .inr ⟨.inl h.1, h.2⟩
                    · rintro (h | ⟨h | rfl, h'⟩)
                      · exact .inl h
                      · exact .inr ⟨h, h'⟩
                      · exact absurd hyb h'
                · have hq' : q = lt.length := by simp at h4; omega
                  subst hq'
                  rw [List.take_length] at hm
                  simp -dsimp (maxDischargeDepth := 9) only [go_sem, Nat.reduceBEq, Nat.reduceLT, Nat.reduceAdd, Nat.reduceSub, Nat.reduceMul, Nat.reduceLeDiff, Int.reduceLE, Int.toNat_natCast, Int.natCast_nonneg, List.getElem?_map, List.length_map, Nat.zero_add, eq_self, Bool.not_true, Bool.not_false, hwj]
                  exact roundQ_next (j + 1, m, tos, buts) _ ⟨by simp only; omega, hle, hm.congr (want4_succ ht hbut hlt), hgd⟩ (by simp only; omega) (by simp -dsimp (maxDischargeDepth := 9) only [go_sem, Nat.reduceBEq, Nat.reduceLT, Nat.reduceAdd, Nat.reduceSub, Nat.reduceMul, Nat.reduceLeDiff, Int.reduceLE, Int.toNat_natCast, Int.natCast_nonneg, List.getElem?_map, List.length_map, Nat.zero_add, eq_self, Bool.not_true, Bool.not_false, intss, bools, ints]) (.refl _)
              · have hj' : j = tos.length := by simp at h2; omega
                subst hj'
                have hS := want4_all hgd hL hki hl
                have hml := hm.length (hL.rise l (List.mem_of_getElem? hl)) hS
                simp -dsimp (maxDischargeDepth := 9) only [go_sem, Nat.reduceBEq, Nat.reduceLT, Nat.reduceAdd, Nat.reduceSub, Nat.reduceMul, Nat.reduceLeDiff, Int.reduceLE, Int.toNat_natCast, Int.natCast_nonneg, List.getElem?_map, List.length_map, Nat.zero_add, eq_self, Bool.not_true, Bool.not_false, hG10, hml, intss, hl, hkl]
                have hll := hall l (List.mem_of_getElem? hl)
                have hnn : ∀ y ∈ l, -1 < y := fun y hy => by
                  obtain ⟨r, rfl, _⟩ := (hL.mem k l hl y).1 hy
                  omega
                have hris := hL.rise l (List.mem_of_getElem? hl)
                refine svc_loop (X := Nat × Int) (fun x => [(1, .ref b1 0), (3, .d (intss ls)), (5, .d (intss gs)), (10, .mp b10), (21, .d (.int .i64 x.2)), (51, .d (bools rch)), (52, .d (.int .i64 rch.length)), (53, .d (.int .i64 k)), (183, .d (ints l)), (184, .d (.int .i64 l.length)), (185, .d (.int .i64 x.1))])
                  (fun x G => x.1 ≤ l.length ∧ LeH (upd B b10 (.map (.one (.int .i64)) m)) G ∧ ∀ y ∈ l.drop x.1, x.2 < y) (fun x => l.length - x.1) (0, -1) _
                  ⟨Nat.zero_le _, hle, by simpa using hnn⟩ (by simp -dsimp (maxDischargeDepth := 9) only [go_sem, Nat.reduceBEq, Nat.reduceLT, Nat.reduceAdd, Nat.reduceSub, Nat.reduceMul, Nat.reduceLeDiff, Int.reduceLE, Int.toNat_natCast, Int.natCast_nonneg, List.getElem?_map, List.length_map, Nat.zero_add, eq_self, Bool.not_true, Bool.not_false, intss, bools, ints]) (.refl _) ?_
                clear hle hG10
                rintro ⟨q, last⟩ G ⟨hq, hle, hlast⟩
                simp only at hq hle hlast
                have hG10 := hle b10 _ (upd_same ..)
                simp -dsimp (maxDischargeDepth := 9) only [go_sem, Nat.reduceBEq, Nat.reduceLT, Nat.reduceAdd, Nat.reduceSub, Nat.reduceMul, Nat.reduceLeDiff, Int.reduceLE, Int.toNat_natCast, Int.natCast_nonneg, List.getElem?_map, List.length_map, Nat.zero_add, eq_self, Bool.not_true, Bool.not_false]
                refine gif_split (fun h4 => ?_) (fun h4 => ?_)
                · have hq' : q < l.length := by simpa using h4
                  obtain ⟨y, hyq⟩ : ∃ x, l[q]? = some x := ⟨l[q], by simp⟩
                  have hwq := wrapS (k := q) (by omega)
                  have hget := hm.get ((hS y).1 (List.mem_of_getElem? hyq))
                  have hdr := drop_at hyq
                  rw [hdr] at hlast
                  have hlt : decide (y ≤ last) = false := decide_eq_false (by have := hlast y (by simp); omega)
                  simp -dsimp (maxDischargeDepth := 9) only [go_sem, Nat.reduceBEq, Nat.reduceLT, Nat.reduceAdd, Nat.reduceSub, Nat.reduceMul, Nat.reduceLeDiff, Int.reduceLE, Int.toNat_natCast, Int.natCast_nonneg, List.getElem?_map, List.length_map, Nat.zero_add, eq_self, Bool.not_true, Bool.not_false, ints, hyq, hq', hG10, hget, Option.getD_some, hlt, hwq]
                  refine roundQ_next (q + 1, y) _ ⟨by simp only; omega, hle, ?_⟩ (by simp only; omega) (by simp -dsimp (maxDischargeDepth := 9) only [go_sem, Nat.reduceBEq, Nat.reduceLT, Nat.reduceAdd, Nat.reduceSub, Nat.reduceMul, Nat.reduceLeDiff, Int.reduceLE, Int.toNat_natCast, Int.natCast_nonneg, List.getElem?_map, List.length_map, Nat.zero_add, eq_self, Bool.not_true, Bool.not_false, intss, bools, ints]) (.refl _)
                  intro z hz
                  have hp : (l.drop q).Pairwise (· < ·) := hris.sublist (List.drop_sublist q l)
                  rw [hdr, List.pairwise_cons] at hp
                  exact hp.1 z hz
                · simp -dsimp (maxDischargeDepth := 9) only [go_sem, Nat.reduceBEq, Nat.reduceLT, Nat.reduceAdd, Nat.reduceSub, Nat.reduceMul, Nat.reduceLeDiff, Int.reduceLE, Int.toNat_natCast, Int.natCast_nonneg, List.getElem?_map, List.length_map, Nat.zero_add, eq_self, Bool.not_true, Bool.not_false, hw]
                  refine roundQ_next (k + 1) _ ⟨by omega, ?_⟩ (by omega) (by simp -dsimp (maxDischargeDepth := 9) only [go_sem, Nat.reduceBEq, Nat.reduceLT, Nat.reduceAdd, Nat.reduceSub, Nat.reduceMul, Nat.reduceLeDiff, Int.reduceLE, Int.toNat_natCast, Int.natCast_nonneg, List.getElem?_map, List.length_map, Nat.zero_add, eq_self, Bool.not_true, Bool.not_false, intss, bools, ints]) (.refl _)
                  exact (leH_upd hBx (.refl B)).trans hle
        · simp -dsimp (maxDischargeDepth := 9) only [go_sem, Nat.reduceBEq, Nat.reduceLT, Nat.reduceAdd, Nat.reduceSub, Nat.reduceMul, Nat.reduceLeDiff, Int.reduceLE, Int.toNat_natCast, Int.natCast_nonneg, List.getElem?_map, List.length_map, Nat.zero_add, eq_self, Bool.not_true, Bool.not_false]
          exact retW_drop ((hle1 _).trans hle) (retW_is hK)

end Go.Aug
