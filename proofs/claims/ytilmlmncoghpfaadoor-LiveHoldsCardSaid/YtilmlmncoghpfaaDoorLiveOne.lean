/- The contracts of the functions of augurref16, live, slices and augurnum that LiveWays reaches, first part; conditions stand in each contract. -/
import Derived.Test.YtilmlmncoghpfaaDoorFacts
import Derived.Test.YtilmlmncoghpfaaDoorAugFour
import Derived.Laws.Bits64b
set_option linter.all false
set_option linter.unusedVariables false
set_option linter.unusedSimpArgs false
set_option linter.unusedSectionVars false

/- The calls of augurnum and augurref16, function by function. -/
namespace Go.Aug
open Go.Proofs
set_option maxRecDepth 100000
set_option linter.unusedSimpArgs false

def I (n : Int) : D := .int .i64 n
def ints (l : List Int) : D := .slice (l.map fun n => .int .i64 n)

@[go_sem] theorem cells_ints {l : List Int} : (ints l).cells = [ints l] := Eq.trans rfl rfl
@[go_sem] theorem unraw_ints {l : List Int} : unraw (ints l) = .d (ints l) := Eq.trans rfl rfl
@[go_sem] theorem withCells_ints {l : List Int} {x : D} : D.withCells (ints l) [x] = x := Eq.trans rfl rfl

@[go_sem] theorem srcK_ints {H : Heap} {l : List Int} {K : List D → Prop} : srcK H (.d (ints l)) K = K (l.map fun n => .int .i64 n) := by simp only [ints, srcK_slice]
@[go_sem] theorem lenable_ints {P : Program} {t : TypeId} {l : List Int} : lenable P t (.d (ints l)) = isSliceT P t := by simp only [ints, lenable_slice]
@[go_sem] theorem aLen_ints {H : Heap} {l : List Int} {K : A → Prop} : aLen (.d (ints l)) H K = K (.d (.int .i64 l.length)) := by simp only [ints, aLen_slice, List.length_map]
@[go_sem] theorem idxA_ints {H : Heap} {l : List Int} {sz n : Nat} {K : A → Prop} : idxA (.d (ints l)) sz n H K = onSome l[n]? (hid (fun x => andK (1 = sz) (hid (K (.imm [.int .i64 x])) ⟨⟩)) ⟨⟩) := by
  simp only [ints, idxA_slice, List.getElem?_map]
  cases l[n]? <;> rfl

theorem in_ok {eb : Nat → Addr} (H : Heap) (l : List Int) (n : Int) (hl : l.length < 1099511627776) (K : A → Heap → Prop)
    (hK : K (.d (.bool (l.contains n))) H) : ACall Tryd.prog (seatV eb) 10 [.d (ints l), .d (.int .i64 n)] H K := by
  refine ACall.by mixed fn10 (by simp) ?_
  conv in s10 => cbv
  refine svc_start ?_
  simp -dsimp only [go_sem, Nat.reduceBEq, Nat.reduceLT, Nat.reduceAdd, ints, List.length_map]
  refine svc_loop (fun k : Nat => [(1, .d (.int .i64 n)), (7, .d (ints l)), (8, .d (.int .i64 l.length)), (9, .d (.int .i64 k))]) (fun k G => G = H ∧ k ≤ l.length ∧ ∀ j, j < k → l[j]? ≠ some n) (fun k => l.length - k) 0 H ⟨rfl, by omega, by omega⟩ ?_ (.refl _) ?_
  · simp -dsimp only [go_sem, Nat.reduceBEq, Nat.reduceLT, Nat.reduceAdd, ints]
    simp
  · rintro k G ⟨rfl, hk, hj⟩
    simp -dsimp only [go_sem, Nat.reduceBEq, Nat.reduceLT, Nat.reduceAdd, ints, Int.toNat_natCast, Int.natCast_nonneg, List.getElem?_map, eq_self]
    refine gif_split (fun h => ?_) (fun h => ?_)
    · have hk' : k < l.length := by simpa using h
      obtain ⟨x, hx⟩ : ∃ x, l[k]? = some x := ⟨l[k], by simp [hk']⟩
      simp -dsimp only [go_sem, Nat.reduceBEq, Nat.reduceLT, Nat.reduceAdd, ints, Int.toNat_natCast, Int.natCast_nonneg, List.getElem?_map, eq_self, hx]
      refine gif_split (fun h2 => ?_) (fun h2 => ?_)
      · simp -dsimp only [go_sem, Nat.reduceBEq, Nat.reduceLT, Nat.reduceAdd, ints, Int.toNat_natCast, Int.natCast_nonneg, List.getElem?_map, eq_self]
        refine retW_is ?_
        have : l.contains n = true := by simp at h2; subst h2; simpa using List.mem_of_getElem? hx
        rwa [this] at hK
      · have hw : IntKind.i64.wrap ((k : Int) + 1) = ((k + 1 : Nat) : Int) := by rw [wrap64 (by omega) (by omega)]; omega
        simp -dsimp only [go_sem, Nat.reduceBEq, Nat.reduceLT, Nat.reduceAdd, ints, Int.toNat_natCast, Int.natCast_nonneg, List.getElem?_map, eq_self, hw]
        refine roundQ_next (k + 1) G ⟨rfl, by omega, ?_⟩ (by omega) ?_ (.refl _)
        · intro j hjk
          rcases Nat.lt_succ_iff_lt_or_eq.1 hjk with hj' | rfl
          · exact hj j hj'
          · rw [hx]; simpa using h2
        · simp -dsimp only [go_sem, Nat.reduceBEq, Nat.reduceLT, Nat.reduceAdd, ints, Int.toNat_natCast, Int.natCast_nonneg, List.getElem?_map, eq_self]
    · have hk' : k = l.length := by simp at h; omega
      simp -dsimp only [go_sem, Nat.reduceBEq, Nat.reduceLT, Nat.reduceAdd, ints, Int.toNat_natCast, Int.natCast_nonneg, List.getElem?_map, eq_self]
      refine retW_is ?_
      have : l.contains n = false := by
        simp only [List.contains_eq_mem, decide_eq_false_iff_not]
        intro hm
        obtain ⟨j, hj'⟩ := List.getElem?_of_mem hm
        exact hj j (by have := (List.getElem?_eq_some_iff.1 hj').1; omega) hj'
      rwa [this] at hK

end Go.Aug

/- The small functions of augurref16 and live. -/
namespace Go.Aug
open Go.Proofs
set_option maxRecDepth 100000
set_option linter.unusedSimpArgs false
attribute [local irreducible] hid andK letA onSome onVar onArr arrOnly onInt onBool onFunc onTup idxA ldV ldD addO ofPart appTo fillL slA srcK nilQ retW gif sgd sguard svc sops sdops sagain aopO aLoad aStore aBin aUn aConv aLen aIndexAddr aIndex aSlice aAppend aBuild aBuildSlice aMakeSlice aField aFieldOf aCallOp deepK deepL frzM putE newK newV growV ACall roundQ thenQ inBlockQ sret cnd szs nilC

structure Ins where
  op : Int
  a : Int
  b : Int
  c : Int
  n : Int
  l : Int
  list : List Int
  outs : List Int
  live : List Int

def Ins.cs (i : Ins) : List D := [.int .i64 i.op, .int .i64 i.a, .int .i64 i.b, .int .i64 i.c, .int .i64 i.n, .int .i64 i.l, ints i.list, ints i.outs, ints i.live]
def Ins.d (i : Ins) : D := .agg i.cs

def mayI (i : Ins) : Bool := decide (i.op = 5) || decide (i.op = 9) || decide (i.op = 6) || decide (i.op = 7) || decide (i.op = 10)

theorem may_ok {eb : Nat → Addr} (H : Heap) (i : Ins) (K : A → Heap → Prop) (hK : K (.d (.bool (mayI i))) H) : ACall Tryd.prog (seatV eb) 21 [.d i.d] H K := by
  refine ACall.by mixed fn21 (by simp) ?_
  conv in s21 => cbv
  refine svc_start ?_
  simp -dsimp (maxDischargeDepth := 9) only [go_sem, Nat.reduceBEq, Nat.reduceLT, Nat.reduceAdd, Nat.reduceSub, Nat.reduceMul, Nat.reduceLeDiff, Int.reduceLE, Int.toNat_natCast, Int.natCast_nonneg, List.getElem?_map, List.length_map, Nat.zero_add, eq_self, Bool.not_true, Bool.not_false, Ins.d, Ins.cs]
  repeat' (first | (refine gif_split (fun h => ?_) (fun h => ?_) <;> (try simp -dsimp (maxDischargeDepth := 9) only [go_sem, Nat.reduceBEq, Nat.reduceLT, Nat.reduceAdd, Nat.reduceSub, Nat.reduceMul, Nat.reduceLeDiff, Int.reduceLE, Int.toNat_natCast, Int.natCast_nonneg, List.getElem?_map, List.length_map, Nat.zero_add, eq_self, Bool.not_true, Bool.not_false, *, Ins.d, Ins.cs])) | (refine newV_intro (fun b v hb hn hm hv => ?_); (try simp -dsimp (maxDischargeDepth := 9) only [go_sem, Nat.reduceBEq, Nat.reduceLT, Nat.reduceAdd, Nat.reduceSub, Nat.reduceMul, Nat.reduceLeDiff, Int.reduceLE, Int.toNat_natCast, Int.natCast_nonneg, List.getElem?_map, List.length_map, Nat.zero_add, eq_self, Bool.not_true, Bool.not_false, *, Ins.d, Ins.cs])) | (refine newK_intro (fun b hb hn hm => ?_); (try simp -dsimp (maxDischargeDepth := 9) only [go_sem, Nat.reduceBEq, Nat.reduceLT, Nat.reduceAdd, Nat.reduceSub, Nat.reduceMul, Nat.reduceLeDiff, Int.reduceLE, Int.toNat_natCast, Int.natCast_nonneg, List.getElem?_map, List.length_map, Nat.zero_add, eq_self, Bool.not_true, Bool.not_false, *, Ins.d, Ins.cs])) | (refine growV_intro (fun b v hb hn hm hv => ?_); (try simp -dsimp (maxDischargeDepth := 9) only [go_sem, Nat.reduceBEq, Nat.reduceLT, Nat.reduceAdd, Nat.reduceSub, Nat.reduceMul, Nat.reduceLeDiff, Int.reduceLE, Int.toNat_natCast, Int.natCast_nonneg, List.getElem?_map, List.length_map, Nat.zero_add, eq_self, Bool.not_true, Bool.not_false, *, Ins.d, Ins.cs])) | (refine andK_split (by omega) ?_; (try simp -dsimp (maxDischargeDepth := 9) only [go_sem, Nat.reduceBEq, Nat.reduceLT, Nat.reduceAdd, Nat.reduceSub, Nat.reduceMul, Nat.reduceLeDiff, Int.reduceLE, Int.toNat_natCast, Int.natCast_nonneg, List.getElem?_map, List.length_map, Nat.zero_add, eq_self, Bool.not_true, Bool.not_false, *, Ins.d, Ins.cs])) | (refine nilQ_intro ?_ (fun h => ?_) <;> (try simp -dsimp (maxDischargeDepth := 9) only [go_sem, Nat.reduceBEq, Nat.reduceLT, Nat.reduceAdd, Nat.reduceSub, Nat.reduceMul, Nat.reduceLeDiff, Int.reduceLE, Int.toNat_natCast, Int.natCast_nonneg, List.getElem?_map, List.length_map, Nat.zero_add, eq_self, Bool.not_true, Bool.not_false, *, Ins.d, Ins.cs])) | (refine And.intro ?_ ?_ <;> (try simp -dsimp (maxDischargeDepth := 9) only [go_sem, Nat.reduceBEq, Nat.reduceLT, Nat.reduceAdd, Nat.reduceSub, Nat.reduceMul, Nat.reduceLeDiff, Int.reduceLE, Int.toNat_natCast, Int.natCast_nonneg, List.getElem?_map, List.length_map, Nat.zero_add, eq_self, Bool.not_true, Bool.not_false, *, Ins.d, Ins.cs])) | (refine (fun (v : Value) (hv : v.ownBlock = some _) => ?_); (try simp -dsimp (maxDischargeDepth := 9) only [go_sem, Nat.reduceBEq, Nat.reduceLT, Nat.reduceAdd, Nat.reduceSub, Nat.reduceMul, Nat.reduceLeDiff, Int.reduceLE, Int.toNat_natCast, Int.natCast_nonneg, List.getElem?_map, List.length_map, Nat.zero_add, eq_self, Bool.not_true, Bool.not_false, *, Ins.d, Ins.cs])))
  all_goals (first | (refine retW_tup [true, true, true] ?_; (try simp -dsimp (maxDischargeDepth := 9) only [go_sem, Nat.reduceBEq, Nat.reduceLT, Nat.reduceAdd, Nat.reduceSub, Nat.reduceMul, Nat.reduceLeDiff, Int.reduceLE, Int.toNat_natCast, Int.natCast_nonneg, List.getElem?_map, List.length_map, Nat.zero_add, eq_self, Bool.not_true, Bool.not_false, *])) | (refine retW_deep ?_; (try simp -dsimp (maxDischargeDepth := 9) only [go_sem, Nat.reduceBEq, Nat.reduceLT, Nat.reduceAdd, Nat.reduceSub, Nat.reduceMul, Nat.reduceLeDiff, Int.reduceLE, Int.toNat_natCast, Int.natCast_nonneg, List.getElem?_map, List.length_map, Nat.zero_add, eq_self, Bool.not_true, Bool.not_false, *])))
  all_goals (refine retW_drop (G := H) (by first | exact LeH.refl _ | (intro k o hk; simp -dsimp (maxDischargeDepth := 9) only [go_sem, Nat.reduceBEq, Nat.reduceLT, Nat.reduceAdd, Nat.reduceSub, Nat.reduceMul, Nat.reduceLeDiff, Int.reduceLE, Int.toNat_natCast, Int.natCast_nonneg, List.getElem?_map, List.length_map, Nat.zero_add, eq_self, Bool.not_true, Bool.not_false, *]; done) | (refine leH_upd_l (by simp -dsimp (maxDischargeDepth := 9) only [go_sem, Nat.reduceBEq, Nat.reduceLT, Nat.reduceAdd, Nat.reduceSub, Nat.reduceMul, Nat.reduceLeDiff, Int.reduceLE, Int.toNat_natCast, Int.natCast_nonneg, List.getElem?_map, List.length_map, Nat.zero_add, eq_self, Bool.not_true, Bool.not_false, *]) (fun k o hkr hk => by simp -dsimp (maxDischargeDepth := 9) only [go_sem, Nat.reduceBEq, Nat.reduceLT, Nat.reduceAdd, Nat.reduceSub, Nat.reduceMul, Nat.reduceLeDiff, Int.reduceLE, Int.toNat_natCast, Int.natCast_nonneg, List.getElem?_map, List.length_map, Nat.zero_add, eq_self, Bool.not_true, Bool.not_false, *]))) ?_)
  all_goals (refine retW_is ?_)
  all_goals simp_all [mayI]

/-- What an instruction writes. -/
def writesI (i : Ins) : List Int :=
  if i.op = 1 ∨ i.op = 2 ∨ i.op = 3 ∨ i.op = 8 then [i.a] else if i.op = 4 then i.list else if i.op = 10 then i.outs else []

theorem writes_ok {eb : Nat → Addr} (H : Heap) (i : Ins) (K : A → Heap → Prop) (hK : K (.d (ints (writesI i))) H) : ACall Tryd.prog (seatV eb) 22 [.d i.d] H K := by
  refine ACall.by mixed fn22 (by simp) ?_
  conv in s22 => cbv
  refine svc_start ?_
  simp -dsimp (maxDischargeDepth := 9) only [go_sem, Nat.reduceBEq, Nat.reduceLT, Nat.reduceAdd, Nat.reduceSub, Nat.reduceMul, Nat.reduceLeDiff, Int.reduceLE, Int.toNat_natCast, Int.natCast_nonneg, List.getElem?_map, List.length_map, Nat.zero_add, eq_self, Bool.not_true, Bool.not_false, Ins.d, Ins.cs]
  repeat' (first | (refine gif_split (fun h => ?_) (fun h => ?_) <;> (try simp -dsimp (maxDischargeDepth := 9) only [go_sem, Nat.reduceBEq, Nat.reduceLT, Nat.reduceAdd, Nat.reduceSub, Nat.reduceMul, Nat.reduceLeDiff, Int.reduceLE, Int.toNat_natCast, Int.natCast_nonneg, List.getElem?_map, List.length_map, Nat.zero_add, eq_self, Bool.not_true, Bool.not_false, *, Ins.d, Ins.cs])) | (refine newV_intro (fun b v hb hn hm hv => ?_); (try simp -dsimp (maxDischargeDepth := 9) only [go_sem, Nat.reduceBEq, Nat.reduceLT, Nat.reduceAdd, Nat.reduceSub, Nat.reduceMul, Nat.reduceLeDiff, Int.reduceLE, Int.toNat_natCast, Int.natCast_nonneg, List.getElem?_map, List.length_map, Nat.zero_add, eq_self, Bool.not_true, Bool.not_false, *, Ins.d, Ins.cs])) | (refine newK_intro (fun b hb hn hm => ?_); (try simp -dsimp (maxDischargeDepth := 9) only [go_sem, Nat.reduceBEq, Nat.reduceLT, Nat.reduceAdd, Nat.reduceSub, Nat.reduceMul, Nat.reduceLeDiff, Int.reduceLE, Int.toNat_natCast, Int.natCast_nonneg, List.getElem?_map, List.length_map, Nat.zero_add, eq_self, Bool.not_true, Bool.not_false, *, Ins.d, Ins.cs])) | (refine growV_intro (fun b v hb hn hm hv => ?_); (try simp -dsimp (maxDischargeDepth := 9) only [go_sem, Nat.reduceBEq, Nat.reduceLT, Nat.reduceAdd, Nat.reduceSub, Nat.reduceMul, Nat.reduceLeDiff, Int.reduceLE, Int.toNat_natCast, Int.natCast_nonneg, List.getElem?_map, List.length_map, Nat.zero_add, eq_self, Bool.not_true, Bool.not_false, *, Ins.d, Ins.cs])) | (refine andK_split (by omega) ?_; (try simp -dsimp (maxDischargeDepth := 9) only [go_sem, Nat.reduceBEq, Nat.reduceLT, Nat.reduceAdd, Nat.reduceSub, Nat.reduceMul, Nat.reduceLeDiff, Int.reduceLE, Int.toNat_natCast, Int.natCast_nonneg, List.getElem?_map, List.length_map, Nat.zero_add, eq_self, Bool.not_true, Bool.not_false, *, Ins.d, Ins.cs])) | (refine nilQ_intro ?_ (fun h => ?_) <;> (try simp -dsimp (maxDischargeDepth := 9) only [go_sem, Nat.reduceBEq, Nat.reduceLT, Nat.reduceAdd, Nat.reduceSub, Nat.reduceMul, Nat.reduceLeDiff, Int.reduceLE, Int.toNat_natCast, Int.natCast_nonneg, List.getElem?_map, List.length_map, Nat.zero_add, eq_self, Bool.not_true, Bool.not_false, *, Ins.d, Ins.cs])) | (refine And.intro ?_ ?_ <;> (try simp -dsimp (maxDischargeDepth := 9) only [go_sem, Nat.reduceBEq, Nat.reduceLT, Nat.reduceAdd, Nat.reduceSub, Nat.reduceMul, Nat.reduceLeDiff, Int.reduceLE, Int.toNat_natCast, Int.natCast_nonneg, List.getElem?_map, List.length_map, Nat.zero_add, eq_self, Bool.not_true, Bool.not_false, *, Ins.d, Ins.cs])) | (refine (fun (v : Value) (hv : v.ownBlock = some _) => ?_); (try simp -dsimp (maxDischargeDepth := 9) only [go_sem, Nat.reduceBEq, Nat.reduceLT, Nat.reduceAdd, Nat.reduceSub, Nat.reduceMul, Nat.reduceLeDiff, Int.reduceLE, Int.toNat_natCast, Int.natCast_nonneg, List.getElem?_map, List.length_map, Nat.zero_add, eq_self, Bool.not_true, Bool.not_false, *, Ins.d, Ins.cs])))
  all_goals (first | (refine retW_tup [true, true, true] ?_; (try simp -dsimp (maxDischargeDepth := 9) only [go_sem, Nat.reduceBEq, Nat.reduceLT, Nat.reduceAdd, Nat.reduceSub, Nat.reduceMul, Nat.reduceLeDiff, Int.reduceLE, Int.toNat_natCast, Int.natCast_nonneg, List.getElem?_map, List.length_map, Nat.zero_add, eq_self, Bool.not_true, Bool.not_false, *])) | (refine retW_deep ?_; (try simp -dsimp (maxDischargeDepth := 9) only [go_sem, Nat.reduceBEq, Nat.reduceLT, Nat.reduceAdd, Nat.reduceSub, Nat.reduceMul, Nat.reduceLeDiff, Int.reduceLE, Int.toNat_natCast, Int.natCast_nonneg, List.getElem?_map, List.length_map, Nat.zero_add, eq_self, Bool.not_true, Bool.not_false, *])))
  all_goals (refine retW_drop (G := H) (by first | exact LeH.refl _ | (intro k o hk; simp -dsimp (maxDischargeDepth := 9) only [go_sem, Nat.reduceBEq, Nat.reduceLT, Nat.reduceAdd, Nat.reduceSub, Nat.reduceMul, Nat.reduceLeDiff, Int.reduceLE, Int.toNat_natCast, Int.natCast_nonneg, List.getElem?_map, List.length_map, Nat.zero_add, eq_self, Bool.not_true, Bool.not_false, *]; done) | (refine leH_upd_l (by simp -dsimp (maxDischargeDepth := 9) only [go_sem, Nat.reduceBEq, Nat.reduceLT, Nat.reduceAdd, Nat.reduceSub, Nat.reduceMul, Nat.reduceLeDiff, Int.reduceLE, Int.toNat_natCast, Int.natCast_nonneg, List.getElem?_map, List.length_map, Nat.zero_add, eq_self, Bool.not_true, Bool.not_false, *]) (fun k o hkr hk => by simp -dsimp (maxDischargeDepth := 9) only [go_sem, Nat.reduceBEq, Nat.reduceLT, Nat.reduceAdd, Nat.reduceSub, Nat.reduceMul, Nat.reduceLeDiff, Int.reduceLE, Int.toNat_natCast, Int.natCast_nonneg, List.getElem?_map, List.length_map, Nat.zero_add, eq_self, Bool.not_true, Bool.not_false, *]))) ?_)
  all_goals (refine retW_is ?_)
  all_goals simp_all [writesI, ints]

def testsI (op : Int) : Bool := decide (op = 5) || decide (op = 9) || decide (op = 6) || decide (op = 7) || decide (op = 10)

theorem tests_ok {eb : Nat → Addr} (H : Heap) (op : Int) (K : A → Heap → Prop) (hK : K (.d (.bool (testsI op))) H) : ACall Tryd.prog (seatV eb) 31 [.d (.int .i64 op)] H K := by
  refine ACall.by mixed fn31 (by simp) ?_
  conv in s31 => cbv
  refine svc_start ?_
  simp -dsimp (maxDischargeDepth := 9) only [go_sem, Nat.reduceBEq, Nat.reduceLT, Nat.reduceAdd, Nat.reduceSub, Nat.reduceMul, Nat.reduceLeDiff, Int.reduceLE, Int.toNat_natCast, Int.natCast_nonneg, List.getElem?_map, List.length_map, Nat.zero_add, eq_self, Bool.not_true, Bool.not_false]
  repeat' (first | (refine gif_split (fun h => ?_) (fun h => ?_) <;> (try simp -dsimp (maxDischargeDepth := 9) only [go_sem, Nat.reduceBEq, Nat.reduceLT, Nat.reduceAdd, Nat.reduceSub, Nat.reduceMul, Nat.reduceLeDiff, Int.reduceLE, Int.toNat_natCast, Int.natCast_nonneg, List.getElem?_map, List.length_map, Nat.zero_add, eq_self, Bool.not_true, Bool.not_false, *])) | (refine newV_intro (fun b v hb hn hm hv => ?_); (try simp -dsimp (maxDischargeDepth := 9) only [go_sem, Nat.reduceBEq, Nat.reduceLT, Nat.reduceAdd, Nat.reduceSub, Nat.reduceMul, Nat.reduceLeDiff, Int.reduceLE, Int.toNat_natCast, Int.natCast_nonneg, List.getElem?_map, List.length_map, Nat.zero_add, eq_self, Bool.not_true, Bool.not_false, *])) | (refine newK_intro (fun b hb hn hm => ?_); (try simp -dsimp (maxDischargeDepth := 9) only [go_sem, Nat.reduceBEq, Nat.reduceLT, Nat.reduceAdd, Nat.reduceSub, Nat.reduceMul, Nat.reduceLeDiff, Int.reduceLE, Int.toNat_natCast, Int.natCast_nonneg, List.getElem?_map, List.length_map, Nat.zero_add, eq_self, Bool.not_true, Bool.not_false, *])) | (refine growV_intro (fun b v hb hn hm hv => ?_); (try simp -dsimp (maxDischargeDepth := 9) only [go_sem, Nat.reduceBEq, Nat.reduceLT, Nat.reduceAdd, Nat.reduceSub, Nat.reduceMul, Nat.reduceLeDiff, Int.reduceLE, Int.toNat_natCast, Int.natCast_nonneg, List.getElem?_map, List.length_map, Nat.zero_add, eq_self, Bool.not_true, Bool.not_false, *])) | (refine andK_split (by omega) ?_; (try simp -dsimp (maxDischargeDepth := 9) only [go_sem, Nat.reduceBEq, Nat.reduceLT, Nat.reduceAdd, Nat.reduceSub, Nat.reduceMul, Nat.reduceLeDiff, Int.reduceLE, Int.toNat_natCast, Int.natCast_nonneg, List.getElem?_map, List.length_map, Nat.zero_add, eq_self, Bool.not_true, Bool.not_false, *])) | (refine nilQ_intro ?_ (fun h => ?_) <;> (try simp -dsimp (maxDischargeDepth := 9) only [go_sem, Nat.reduceBEq, Nat.reduceLT, Nat.reduceAdd, Nat.reduceSub, Nat.reduceMul, Nat.reduceLeDiff, Int.reduceLE, Int.toNat_natCast, Int.natCast_nonneg, List.getElem?_map, List.length_map, Nat.zero_add, eq_self, Bool.not_true, Bool.not_false, *])) | (refine And.intro ?_ ?_ <;> (try simp -dsimp (maxDischargeDepth := 9) only [go_sem, Nat.reduceBEq, Nat.reduceLT, Nat.reduceAdd, Nat.reduceSub, Nat.reduceMul, Nat.reduceLeDiff, Int.reduceLE, Int.toNat_natCast, Int.natCast_nonneg, List.getElem?_map, List.length_map, Nat.zero_add, eq_self, Bool.not_true, Bool.not_false, *])) | (refine (fun (v : Value) (hv : v.ownBlock = some _) => ?_); (try simp -dsimp (maxDischargeDepth := 9) only [go_sem, Nat.reduceBEq, Nat.reduceLT, Nat.reduceAdd, Nat.reduceSub, Nat.reduceMul, Nat.reduceLeDiff, Int.reduceLE, Int.toNat_natCast, Int.natCast_nonneg, List.getElem?_map, List.length_map, Nat.zero_add, eq_self, Bool.not_true, Bool.not_false, *])))
  all_goals (first | (refine retW_tup [true, true, true] ?_; (try simp -dsimp (maxDischargeDepth := 9) only [go_sem, Nat.reduceBEq, Nat.reduceLT, Nat.reduceAdd, Nat.reduceSub, Nat.reduceMul, Nat.reduceLeDiff, Int.reduceLE, Int.toNat_natCast, Int.natCast_nonneg, List.getElem?_map, List.length_map, Nat.zero_add, eq_self, Bool.not_true, Bool.not_false, *])) | (refine retW_deep ?_; (try simp -dsimp (maxDischargeDepth := 9) only [go_sem, Nat.reduceBEq, Nat.reduceLT, Nat.reduceAdd, Nat.reduceSub, Nat.reduceMul, Nat.reduceLeDiff, Int.reduceLE, Int.toNat_natCast, Int.natCast_nonneg, List.getElem?_map, List.length_map, Nat.zero_add, eq_self, Bool.not_true, Bool.not_false, *])))
  all_goals (refine retW_drop (G := H) (by first | exact LeH.refl _ | (intro k o hk; simp -dsimp (maxDischargeDepth := 9) only [go_sem, Nat.reduceBEq, Nat.reduceLT, Nat.reduceAdd, Nat.reduceSub, Nat.reduceMul, Nat.reduceLeDiff, Int.reduceLE, Int.toNat_natCast, Int.natCast_nonneg, List.getElem?_map, List.length_map, Nat.zero_add, eq_self, Bool.not_true, Bool.not_false, *]; done) | (refine leH_upd_l (by simp -dsimp (maxDischargeDepth := 9) only [go_sem, Nat.reduceBEq, Nat.reduceLT, Nat.reduceAdd, Nat.reduceSub, Nat.reduceMul, Nat.reduceLeDiff, Int.reduceLE, Int.toNat_natCast, Int.natCast_nonneg, List.getElem?_map, List.length_map, Nat.zero_add, eq_self, Bool.not_true, Bool.not_false, *]) (fun k o hkr hk => by simp -dsimp (maxDischargeDepth := 9) only [go_sem, Nat.reduceBEq, Nat.reduceLT, Nat.reduceAdd, Nat.reduceSub, Nat.reduceMul, Nat.reduceLeDiff, Int.reduceLE, Int.toNat_natCast, Int.natCast_nonneg, List.getElem?_map, List.length_map, Nat.zero_add, eq_self, Bool.not_true, Bool.not_false, *]))) ?_)
  all_goals (refine retW_is ?_)
  all_goals simp_all [testsI]

def raisesI (op : Int) : Bool := decide (op = 8) || decide (op = 4) || decide (op = 15) || decide (op = 10)

theorem raises_ok {eb : Nat → Addr} (H : Heap) (op : Int) (K : A → Heap → Prop) (hK : K (.d (.bool (raisesI op))) H) : ACall Tryd.prog (seatV eb) 36 [.d (.int .i64 op)] H K := by
  refine ACall.by mixed fn36 (by simp) ?_
  conv in s36 => cbv
  refine svc_start ?_
  simp -dsimp (maxDischargeDepth := 9) only [go_sem, Nat.reduceBEq, Nat.reduceLT, Nat.reduceAdd, Nat.reduceSub, Nat.reduceMul, Nat.reduceLeDiff, Int.reduceLE, Int.toNat_natCast, Int.natCast_nonneg, List.getElem?_map, List.length_map, Nat.zero_add, eq_self, Bool.not_true, Bool.not_false]
  repeat' (first | (refine gif_split (fun h => ?_) (fun h => ?_) <;> (try simp -dsimp (maxDischargeDepth := 9) only [go_sem, Nat.reduceBEq, Nat.reduceLT, Nat.reduceAdd, Nat.reduceSub, Nat.reduceMul, Nat.reduceLeDiff, Int.reduceLE, Int.toNat_natCast, Int.natCast_nonneg, List.getElem?_map, List.length_map, Nat.zero_add, eq_self, Bool.not_true, Bool.not_false, *])) | (refine newV_intro (fun b v hb hn hm hv => ?_); (try simp -dsimp (maxDischargeDepth := 9) only [go_sem, Nat.reduceBEq, Nat.reduceLT, Nat.reduceAdd, Nat.reduceSub, Nat.reduceMul, Nat.reduceLeDiff, Int.reduceLE, Int.toNat_natCast, Int.natCast_nonneg, List.getElem?_map, List.length_map, Nat.zero_add, eq_self, Bool.not_true, Bool.not_false, *])) | (refine newK_intro (fun b hb hn hm => ?_); (try simp -dsimp (maxDischargeDepth := 9) only [go_sem, Nat.reduceBEq, Nat.reduceLT, Nat.reduceAdd, Nat.reduceSub, Nat.reduceMul, Nat.reduceLeDiff, Int.reduceLE, Int.toNat_natCast, Int.natCast_nonneg, List.getElem?_map, List.length_map, Nat.zero_add, eq_self, Bool.not_true, Bool.not_false, *])) | (refine growV_intro (fun b v hb hn hm hv => ?_); (try simp -dsimp (maxDischargeDepth := 9) only [go_sem, Nat.reduceBEq, Nat.reduceLT, Nat.reduceAdd, Nat.reduceSub, Nat.reduceMul, Nat.reduceLeDiff, Int.reduceLE, Int.toNat_natCast, Int.natCast_nonneg, List.getElem?_map, List.length_map, Nat.zero_add, eq_self, Bool.not_true, Bool.not_false, *])) | (refine andK_split (by omega) ?_; (try simp -dsimp (maxDischargeDepth := 9) only [go_sem, Nat.reduceBEq, Nat.reduceLT, Nat.reduceAdd, Nat.reduceSub, Nat.reduceMul, Nat.reduceLeDiff, Int.reduceLE, Int.toNat_natCast, Int.natCast_nonneg, List.getElem?_map, List.length_map, Nat.zero_add, eq_self, Bool.not_true, Bool.not_false, *])) | (refine nilQ_intro ?_ (fun h => ?_) <;> (try simp -dsimp (maxDischargeDepth := 9) only [go_sem, Nat.reduceBEq, Nat.reduceLT, Nat.reduceAdd, Nat.reduceSub, Nat.reduceMul, Nat.reduceLeDiff, Int.reduceLE, Int.toNat_natCast, Int.natCast_nonneg, List.getElem?_map, List.length_map, Nat.zero_add, eq_self, Bool.not_true, Bool.not_false, *])) | (refine And.intro ?_ ?_ <;> (try simp -dsimp (maxDischargeDepth := 9) only [go_sem, Nat.reduceBEq, Nat.reduceLT, Nat.reduceAdd, Nat.reduceSub, Nat.reduceMul, Nat.reduceLeDiff, Int.reduceLE, Int.toNat_natCast, Int.natCast_nonneg, List.getElem?_map, List.length_map, Nat.zero_add, eq_self, Bool.not_true, Bool.not_false, *])) | (refine (fun (v : Value) (hv : v.ownBlock = some _) => ?_); (try simp -dsimp (maxDischargeDepth := 9) only [go_sem, Nat.reduceBEq, Nat.reduceLT, Nat.reduceAdd, Nat.reduceSub, Nat.reduceMul, Nat.reduceLeDiff, Int.reduceLE, Int.toNat_natCast, Int.natCast_nonneg, List.getElem?_map, List.length_map, Nat.zero_add, eq_self, Bool.not_true, Bool.not_false, *])))
  all_goals (first | (refine retW_tup [true, true, true] ?_; (try simp -dsimp (maxDischargeDepth := 9) only [go_sem, Nat.reduceBEq, Nat.reduceLT, Nat.reduceAdd, Nat.reduceSub, Nat.reduceMul, Nat.reduceLeDiff, Int.reduceLE, Int.toNat_natCast, Int.natCast_nonneg, List.getElem?_map, List.length_map, Nat.zero_add, eq_self, Bool.not_true, Bool.not_false, *])) | (refine retW_deep ?_; (try simp -dsimp (maxDischargeDepth := 9) only [go_sem, Nat.reduceBEq, Nat.reduceLT, Nat.reduceAdd, Nat.reduceSub, Nat.reduceMul, Nat.reduceLeDiff, Int.reduceLE, Int.toNat_natCast, Int.natCast_nonneg, List.getElem?_map, List.length_map, Nat.zero_add, eq_self, Bool.not_true, Bool.not_false, *])))
  all_goals (refine retW_drop (G := H) (by first | exact LeH.refl _ | (intro k o hk; simp -dsimp (maxDischargeDepth := 9) only [go_sem, Nat.reduceBEq, Nat.reduceLT, Nat.reduceAdd, Nat.reduceSub, Nat.reduceMul, Nat.reduceLeDiff, Int.reduceLE, Int.toNat_natCast, Int.natCast_nonneg, List.getElem?_map, List.length_map, Nat.zero_add, eq_self, Bool.not_true, Bool.not_false, *]; done) | (refine leH_upd_l (by simp -dsimp (maxDischargeDepth := 9) only [go_sem, Nat.reduceBEq, Nat.reduceLT, Nat.reduceAdd, Nat.reduceSub, Nat.reduceMul, Nat.reduceLeDiff, Int.reduceLE, Int.toNat_natCast, Int.natCast_nonneg, List.getElem?_map, List.length_map, Nat.zero_add, eq_self, Bool.not_true, Bool.not_false, *]) (fun k o hkr hk => by simp -dsimp (maxDischargeDepth := 9) only [go_sem, Nat.reduceBEq, Nat.reduceLT, Nat.reduceAdd, Nat.reduceSub, Nat.reduceMul, Nat.reduceLeDiff, Int.reduceLE, Int.toNat_natCast, Int.natCast_nonneg, List.getElem?_map, List.length_map, Nat.zero_add, eq_self, Bool.not_true, Bool.not_false, *]))) ?_)
  all_goals (refine retW_is ?_)
  all_goals simp_all [raisesI]

theorem clone_ok {eb : Nat → Addr} (H : Heap) (l : List Int) (K : A → Heap → Prop) (hl : l.length < 1099511627776) (hK : K (.d (ints l)) H) : ACall Tryd.prog (seatV eb) 23 [.d (ints l)] H K := by
  refine ACall.by mixed fn23 (by simp) ?_
  conv in s23 => cbv
  refine svc_start ?_
  simp -dsimp (maxDischargeDepth := 9) only [go_sem, Nat.reduceBEq, Nat.reduceLT, Nat.reduceAdd, Nat.reduceSub, Nat.reduceMul, Nat.reduceLeDiff, Int.reduceLE, Int.toNat_natCast, Int.natCast_nonneg, List.getElem?_map, List.length_map, Nat.zero_add, eq_self, Bool.not_true, Bool.not_false, ints]
  repeat' (first | (refine gif_split (fun h => ?_) (fun h => ?_) <;> (try simp -dsimp (maxDischargeDepth := 9) only [go_sem, Nat.reduceBEq, Nat.reduceLT, Nat.reduceAdd, Nat.reduceSub, Nat.reduceMul, Nat.reduceLeDiff, Int.reduceLE, Int.toNat_natCast, Int.natCast_nonneg, List.getElem?_map, List.length_map, Nat.zero_add, eq_self, Bool.not_true, Bool.not_false, *])) | (refine newV_intro (fun b v hb hn hm hv => ?_); (try simp -dsimp (maxDischargeDepth := 9) only [go_sem, Nat.reduceBEq, Nat.reduceLT, Nat.reduceAdd, Nat.reduceSub, Nat.reduceMul, Nat.reduceLeDiff, Int.reduceLE, Int.toNat_natCast, Int.natCast_nonneg, List.getElem?_map, List.length_map, Nat.zero_add, eq_self, Bool.not_true, Bool.not_false, *])) | (refine newK_intro (fun b hb hn hm => ?_); (try simp -dsimp (maxDischargeDepth := 9) only [go_sem, Nat.reduceBEq, Nat.reduceLT, Nat.reduceAdd, Nat.reduceSub, Nat.reduceMul, Nat.reduceLeDiff, Int.reduceLE, Int.toNat_natCast, Int.natCast_nonneg, List.getElem?_map, List.length_map, Nat.zero_add, eq_self, Bool.not_true, Bool.not_false, *])) | (refine growV_intro (fun b v hb hn hm hv => ?_); (try simp -dsimp (maxDischargeDepth := 9) only [go_sem, Nat.reduceBEq, Nat.reduceLT, Nat.reduceAdd, Nat.reduceSub, Nat.reduceMul, Nat.reduceLeDiff, Int.reduceLE, Int.toNat_natCast, Int.natCast_nonneg, List.getElem?_map, List.length_map, Nat.zero_add, eq_self, Bool.not_true, Bool.not_false, *])) | (refine andK_split (by omega) ?_; (try simp -dsimp (maxDischargeDepth := 9) only [go_sem, Nat.reduceBEq, Nat.reduceLT, Nat.reduceAdd, Nat.reduceSub, Nat.reduceMul, Nat.reduceLeDiff, Int.reduceLE, Int.toNat_natCast, Int.natCast_nonneg, List.getElem?_map, List.length_map, Nat.zero_add, eq_self, Bool.not_true, Bool.not_false, *])) | (refine nilQ_intro ?_ (fun h => ?_) <;> (try simp -dsimp (maxDischargeDepth := 9) only [go_sem, Nat.reduceBEq, Nat.reduceLT, Nat.reduceAdd, Nat.reduceSub, Nat.reduceMul, Nat.reduceLeDiff, Int.reduceLE, Int.toNat_natCast, Int.natCast_nonneg, List.getElem?_map, List.length_map, Nat.zero_add, eq_self, Bool.not_true, Bool.not_false, *])) | (refine And.intro ?_ ?_ <;> (try simp -dsimp (maxDischargeDepth := 9) only [go_sem, Nat.reduceBEq, Nat.reduceLT, Nat.reduceAdd, Nat.reduceSub, Nat.reduceMul, Nat.reduceLeDiff, Int.reduceLE, Int.toNat_natCast, Int.natCast_nonneg, List.getElem?_map, List.length_map, Nat.zero_add, eq_self, Bool.not_true, Bool.not_false, *])) | (refine (fun (v : Value) (hv : v.ownBlock = some _) => ?_); (try simp -dsimp (maxDischargeDepth := 9) only [go_sem, Nat.reduceBEq, Nat.reduceLT, Nat.reduceAdd, Nat.reduceSub, Nat.reduceMul, Nat.reduceLeDiff, Int.reduceLE, Int.toNat_natCast, Int.natCast_nonneg, List.getElem?_map, List.length_map, Nat.zero_add, eq_self, Bool.not_true, Bool.not_false, *])))
  all_goals (first | (refine retW_tup [true, true, true] ?_; (try simp -dsimp (maxDischargeDepth := 9) only [go_sem, Nat.reduceBEq, Nat.reduceLT, Nat.reduceAdd, Nat.reduceSub, Nat.reduceMul, Nat.reduceLeDiff, Int.reduceLE, Int.toNat_natCast, Int.natCast_nonneg, List.getElem?_map, List.length_map, Nat.zero_add, eq_self, Bool.not_true, Bool.not_false, *])) | (refine retW_deep ?_; (try simp -dsimp (maxDischargeDepth := 9) only [go_sem, Nat.reduceBEq, Nat.reduceLT, Nat.reduceAdd, Nat.reduceSub, Nat.reduceMul, Nat.reduceLeDiff, Int.reduceLE, Int.toNat_natCast, Int.natCast_nonneg, List.getElem?_map, List.length_map, Nat.zero_add, eq_self, Bool.not_true, Bool.not_false, *])))
  all_goals (refine retW_drop (G := H) (by first | exact LeH.refl _ | (intro k o hk; simp -dsimp (maxDischargeDepth := 9) only [go_sem, Nat.reduceBEq, Nat.reduceLT, Nat.reduceAdd, Nat.reduceSub, Nat.reduceMul, Nat.reduceLeDiff, Int.reduceLE, Int.toNat_natCast, Int.natCast_nonneg, List.getElem?_map, List.length_map, Nat.zero_add, eq_self, Bool.not_true, Bool.not_false, *]; done) | (refine leH_upd_l (by simp -dsimp (maxDischargeDepth := 9) only [go_sem, Nat.reduceBEq, Nat.reduceLT, Nat.reduceAdd, Nat.reduceSub, Nat.reduceMul, Nat.reduceLeDiff, Int.reduceLE, Int.toNat_natCast, Int.natCast_nonneg, List.getElem?_map, List.length_map, Nat.zero_add, eq_self, Bool.not_true, Bool.not_false, *]) (fun k o hkr hk => by simp -dsimp (maxDischargeDepth := 9) only [go_sem, Nat.reduceBEq, Nat.reduceLT, Nat.reduceAdd, Nat.reduceSub, Nat.reduceMul, Nat.reduceLeDiff, Int.reduceLE, Int.toNat_natCast, Int.natCast_nonneg, List.getElem?_map, List.length_map, Nat.zero_add, eq_self, Bool.not_true, Bool.not_false, *]))) ?_)
  all_goals (refine retW_is ?_)
  all_goals simp_all [ints]

def Ins.ok (i : Ins) : Prop := i.list.length < 1099511627776 ∧ i.outs.length < 1099511627776 ∧ i.live.length < 1099511627776

theorem lwrites_ok {eb : Nat → Addr} (H : Heap) (i : Ins) (hi : i.ok) (K : A → Heap → Prop) (hK : K (.d (ints (writesI i))) H) : ACall Tryd.prog (seatV eb) 35 [.d i.d] H K := by
  obtain ⟨h1, h2, h3⟩ := hi
  refine ACall.by mixed fn35 (by simp) ?_
  conv in s35 => cbv
  refine svc_start ?_
  simp -dsimp (maxDischargeDepth := 9) only [go_sem, Nat.reduceBEq, Nat.reduceLT, Nat.reduceAdd, Nat.reduceSub, Nat.reduceMul, Nat.reduceLeDiff, Int.reduceLE, Int.toNat_natCast, Int.natCast_nonneg, List.getElem?_map, List.length_map, Nat.zero_add, eq_self, Bool.not_true, Bool.not_false, Ins.d, Ins.cs]
  repeat' (first | (refine gif_split (fun h => ?_) (fun h => ?_) <;> (try simp -dsimp (maxDischargeDepth := 9) only [go_sem, Nat.reduceBEq, Nat.reduceLT, Nat.reduceAdd, Nat.reduceSub, Nat.reduceMul, Nat.reduceLeDiff, Int.reduceLE, Int.toNat_natCast, Int.natCast_nonneg, List.getElem?_map, List.length_map, Nat.zero_add, eq_self, Bool.not_true, Bool.not_false, *, Ins.d, Ins.cs])) | (refine newV_intro (fun b v hb hn hm hv => ?_); (try simp -dsimp (maxDischargeDepth := 9) only [go_sem, Nat.reduceBEq, Nat.reduceLT, Nat.reduceAdd, Nat.reduceSub, Nat.reduceMul, Nat.reduceLeDiff, Int.reduceLE, Int.toNat_natCast, Int.natCast_nonneg, List.getElem?_map, List.length_map, Nat.zero_add, eq_self, Bool.not_true, Bool.not_false, *, Ins.d, Ins.cs])) | (refine newK_intro (fun b hb hn hm => ?_); (try simp -dsimp (maxDischargeDepth := 9) only [go_sem, Nat.reduceBEq, Nat.reduceLT, Nat.reduceAdd, Nat.reduceSub, Nat.reduceMul, Nat.reduceLeDiff, Int.reduceLE, Int.toNat_natCast, Int.natCast_nonneg, List.getElem?_map, List.length_map, Nat.zero_add, eq_self, Bool.not_true, Bool.not_false, *, Ins.d, Ins.cs])) | (refine growV_intro (fun b v hb hn hm hv => ?_); (try simp -dsimp (maxDischargeDepth := 9) only [go_sem, Nat.reduceBEq, Nat.reduceLT, Nat.reduceAdd, Nat.reduceSub, Nat.reduceMul, Nat.reduceLeDiff, Int.reduceLE, Int.toNat_natCast, Int.natCast_nonneg, List.getElem?_map, List.length_map, Nat.zero_add, eq_self, Bool.not_true, Bool.not_false, *, Ins.d, Ins.cs])) | (refine andK_split (by omega) ?_; (try simp -dsimp (maxDischargeDepth := 9) only [go_sem, Nat.reduceBEq, Nat.reduceLT, Nat.reduceAdd, Nat.reduceSub, Nat.reduceMul, Nat.reduceLeDiff, Int.reduceLE, Int.toNat_natCast, Int.natCast_nonneg, List.getElem?_map, List.length_map, Nat.zero_add, eq_self, Bool.not_true, Bool.not_false, *, Ins.d, Ins.cs])) | (refine nilQ_intro ?_ (fun h => ?_) <;> (try simp -dsimp (maxDischargeDepth := 9) only [go_sem, Nat.reduceBEq, Nat.reduceLT, Nat.reduceAdd, Nat.reduceSub, Nat.reduceMul, Nat.reduceLeDiff, Int.reduceLE, Int.toNat_natCast, Int.natCast_nonneg, List.getElem?_map, List.length_map, Nat.zero_add, eq_self, Bool.not_true, Bool.not_false, *, Ins.d, Ins.cs])) | (refine And.intro ?_ ?_ <;> (try simp -dsimp (maxDischargeDepth := 9) only [go_sem, Nat.reduceBEq, Nat.reduceLT, Nat.reduceAdd, Nat.reduceSub, Nat.reduceMul, Nat.reduceLeDiff, Int.reduceLE, Int.toNat_natCast, Int.natCast_nonneg, List.getElem?_map, List.length_map, Nat.zero_add, eq_self, Bool.not_true, Bool.not_false, *, Ins.d, Ins.cs])) | (refine (fun (v : Value) (hv : v.ownBlock = some _) => ?_); (try simp -dsimp (maxDischargeDepth := 9) only [go_sem, Nat.reduceBEq, Nat.reduceLT, Nat.reduceAdd, Nat.reduceSub, Nat.reduceMul, Nat.reduceLeDiff, Int.reduceLE, Int.toNat_natCast, Int.natCast_nonneg, List.getElem?_map, List.length_map, Nat.zero_add, eq_self, Bool.not_true, Bool.not_false, *, Ins.d, Ins.cs])) | (refine clone_ok _ _ _ h1 ?_; (try simp -dsimp (maxDischargeDepth := 9) only [go_sem, Nat.reduceBEq, Nat.reduceLT, Nat.reduceAdd, Nat.reduceSub, Nat.reduceMul, Nat.reduceLeDiff, Int.reduceLE, Int.toNat_natCast, Int.natCast_nonneg, List.getElem?_map, List.length_map, Nat.zero_add, eq_self, Bool.not_true, Bool.not_false, *, Ins.d, Ins.cs])) | (refine clone_ok _ _ _ h2 ?_; (try simp -dsimp (maxDischargeDepth := 9) only [go_sem, Nat.reduceBEq, Nat.reduceLT, Nat.reduceAdd, Nat.reduceSub, Nat.reduceMul, Nat.reduceLeDiff, Int.reduceLE, Int.toNat_natCast, Int.natCast_nonneg, List.getElem?_map, List.length_map, Nat.zero_add, eq_self, Bool.not_true, Bool.not_false, *, Ins.d, Ins.cs])))
  all_goals (first | (refine retW_tup [true, true, true] ?_; (try simp -dsimp (maxDischargeDepth := 9) only [go_sem, Nat.reduceBEq, Nat.reduceLT, Nat.reduceAdd, Nat.reduceSub, Nat.reduceMul, Nat.reduceLeDiff, Int.reduceLE, Int.toNat_natCast, Int.natCast_nonneg, List.getElem?_map, List.length_map, Nat.zero_add, eq_self, Bool.not_true, Bool.not_false, *])) | (refine retW_deep ?_; (try simp -dsimp (maxDischargeDepth := 9) only [go_sem, Nat.reduceBEq, Nat.reduceLT, Nat.reduceAdd, Nat.reduceSub, Nat.reduceMul, Nat.reduceLeDiff, Int.reduceLE, Int.toNat_natCast, Int.natCast_nonneg, List.getElem?_map, List.length_map, Nat.zero_add, eq_self, Bool.not_true, Bool.not_false, *])))
  all_goals (refine retW_drop (G := H) (by first | exact LeH.refl _ | (intro k o hk; simp -dsimp (maxDischargeDepth := 9) only [go_sem, Nat.reduceBEq, Nat.reduceLT, Nat.reduceAdd, Nat.reduceSub, Nat.reduceMul, Nat.reduceLeDiff, Int.reduceLE, Int.toNat_natCast, Int.natCast_nonneg, List.getElem?_map, List.length_map, Nat.zero_add, eq_self, Bool.not_true, Bool.not_false, *]; done) | (refine leH_upd_l (by simp -dsimp (maxDischargeDepth := 9) only [go_sem, Nat.reduceBEq, Nat.reduceLT, Nat.reduceAdd, Nat.reduceSub, Nat.reduceMul, Nat.reduceLeDiff, Int.reduceLE, Int.toNat_natCast, Int.natCast_nonneg, List.getElem?_map, List.length_map, Nat.zero_add, eq_self, Bool.not_true, Bool.not_false, *]) (fun k o hkr hk => by simp -dsimp (maxDischargeDepth := 9) only [go_sem, Nat.reduceBEq, Nat.reduceLT, Nat.reduceAdd, Nat.reduceSub, Nat.reduceMul, Nat.reduceLeDiff, Int.reduceLE, Int.toNat_natCast, Int.natCast_nonneg, List.getElem?_map, List.length_map, Nat.zero_add, eq_self, Bool.not_true, Bool.not_false, *]))) ?_)
  all_goals (refine retW_is ?_)
  all_goals simp_all [writesI, ints]

/-- Where an instruction goes on. -/
def goesI (at_ : Int) (i : Ins) : List Int :=
  if i.op = 11 then [i.l] else if i.op = 12 ∨ i.op = 13 ∨ i.op = 15 then [] else if i.op = 14 ∨ i.op = 16 then [at_ + 1, i.l] else if testsI i.op = true ∧ i.l ≠ -1 then [at_ + 1, i.l] else [at_ + 1]

theorem lgoes_ok {eb : Nat → Addr} (H : Heap) (at_ : Int) (h0 : 0 ≤ at_) (h1 : at_ < 1099511627776) (i : Ins) (K : A → Heap → Prop) (hK : K (.d (ints (goesI at_ i))) H) : ACall Tryd.prog (seatV eb) 32 [.d (.int .i64 at_), .d i.d] H K := by
  have hw : IntKind.i64.wrap (at_ + 1) = at_ + 1 := wrap64 (by omega) (by omega)
  refine ACall.by mixed fn32 (by simp) ?_
  conv in s32 => cbv
  refine svc_start ?_
  simp -dsimp (maxDischargeDepth := 9) only [go_sem, Nat.reduceBEq, Nat.reduceLT, Nat.reduceAdd, Nat.reduceSub, Nat.reduceMul, Nat.reduceLeDiff, Int.reduceLE, Int.toNat_natCast, Int.natCast_nonneg, List.getElem?_map, List.length_map, Nat.zero_add, eq_self, Bool.not_true, Bool.not_false, Ins.d, Ins.cs]
  repeat' (first | (refine gif_split (fun h => ?_) (fun h => ?_) <;> (try simp -dsimp (maxDischargeDepth := 9) only [go_sem, Nat.reduceBEq, Nat.reduceLT, Nat.reduceAdd, Nat.reduceSub, Nat.reduceMul, Nat.reduceLeDiff, Int.reduceLE, Int.toNat_natCast, Int.natCast_nonneg, List.getElem?_map, List.length_map, Nat.zero_add, eq_self, Bool.not_true, Bool.not_false, *, Ins.d, Ins.cs])) | (refine newV_intro (fun b v hb hn hm hv => ?_); (try simp -dsimp (maxDischargeDepth := 9) only [go_sem, Nat.reduceBEq, Nat.reduceLT, Nat.reduceAdd, Nat.reduceSub, Nat.reduceMul, Nat.reduceLeDiff, Int.reduceLE, Int.toNat_natCast, Int.natCast_nonneg, List.getElem?_map, List.length_map, Nat.zero_add, eq_self, Bool.not_true, Bool.not_false, *, Ins.d, Ins.cs])) | (refine newK_intro (fun b hb hn hm => ?_); (try simp -dsimp (maxDischargeDepth := 9) only [go_sem, Nat.reduceBEq, Nat.reduceLT, Nat.reduceAdd, Nat.reduceSub, Nat.reduceMul, Nat.reduceLeDiff, Int.reduceLE, Int.toNat_natCast, Int.natCast_nonneg, List.getElem?_map, List.length_map, Nat.zero_add, eq_self, Bool.not_true, Bool.not_false, *, Ins.d, Ins.cs])) | (refine growV_intro (fun b v hb hn hm hv => ?_); (try simp -dsimp (maxDischargeDepth := 9) only [go_sem, Nat.reduceBEq, Nat.reduceLT, Nat.reduceAdd, Nat.reduceSub, Nat.reduceMul, Nat.reduceLeDiff, Int.reduceLE, Int.toNat_natCast, Int.natCast_nonneg, List.getElem?_map, List.length_map, Nat.zero_add, eq_self, Bool.not_true, Bool.not_false, *, Ins.d, Ins.cs])) | (refine andK_split (by omega) ?_; (try simp -dsimp (maxDischargeDepth := 9) only [go_sem, Nat.reduceBEq, Nat.reduceLT, Nat.reduceAdd, Nat.reduceSub, Nat.reduceMul, Nat.reduceLeDiff, Int.reduceLE, Int.toNat_natCast, Int.natCast_nonneg, List.getElem?_map, List.length_map, Nat.zero_add, eq_self, Bool.not_true, Bool.not_false, *, Ins.d, Ins.cs])) | (refine nilQ_intro ?_ (fun h => ?_) <;> (try simp -dsimp (maxDischargeDepth := 9) only [go_sem, Nat.reduceBEq, Nat.reduceLT, Nat.reduceAdd, Nat.reduceSub, Nat.reduceMul, Nat.reduceLeDiff, Int.reduceLE, Int.toNat_natCast, Int.natCast_nonneg, List.getElem?_map, List.length_map, Nat.zero_add, eq_self, Bool.not_true, Bool.not_false, *, Ins.d, Ins.cs])) | (refine And.intro ?_ ?_ <;> (try simp -dsimp (maxDischargeDepth := 9) only [go_sem, Nat.reduceBEq, Nat.reduceLT, Nat.reduceAdd, Nat.reduceSub, Nat.reduceMul, Nat.reduceLeDiff, Int.reduceLE, Int.toNat_natCast, Int.natCast_nonneg, List.getElem?_map, List.length_map, Nat.zero_add, eq_self, Bool.not_true, Bool.not_false, *, Ins.d, Ins.cs])) | (refine (fun (v : Value) (hv : v.ownBlock = some _) => ?_); (try simp -dsimp (maxDischargeDepth := 9) only [go_sem, Nat.reduceBEq, Nat.reduceLT, Nat.reduceAdd, Nat.reduceSub, Nat.reduceMul, Nat.reduceLeDiff, Int.reduceLE, Int.toNat_natCast, Int.natCast_nonneg, List.getElem?_map, List.length_map, Nat.zero_add, eq_self, Bool.not_true, Bool.not_false, *, Ins.d, Ins.cs])) | (refine tests_ok _ _ _ ?_; (try simp -dsimp (maxDischargeDepth := 9) only [go_sem, Nat.reduceBEq, Nat.reduceLT, Nat.reduceAdd, Nat.reduceSub, Nat.reduceMul, Nat.reduceLeDiff, Int.reduceLE, Int.toNat_natCast, Int.natCast_nonneg, List.getElem?_map, List.length_map, Nat.zero_add, eq_self, Bool.not_true, Bool.not_false, *, Ins.d, Ins.cs])))
  all_goals (first | (refine retW_tup [true, true, true] ?_; (try simp -dsimp (maxDischargeDepth := 9) only [go_sem, Nat.reduceBEq, Nat.reduceLT, Nat.reduceAdd, Nat.reduceSub, Nat.reduceMul, Nat.reduceLeDiff, Int.reduceLE, Int.toNat_natCast, Int.natCast_nonneg, List.getElem?_map, List.length_map, Nat.zero_add, eq_self, Bool.not_true, Bool.not_false, *])) | (refine retW_deep ?_; (try simp -dsimp (maxDischargeDepth := 9) only [go_sem, Nat.reduceBEq, Nat.reduceLT, Nat.reduceAdd, Nat.reduceSub, Nat.reduceMul, Nat.reduceLeDiff, Int.reduceLE, Int.toNat_natCast, Int.natCast_nonneg, List.getElem?_map, List.length_map, Nat.zero_add, eq_self, Bool.not_true, Bool.not_false, *])))
  all_goals (refine retW_drop (G := H) (by first | exact LeH.refl _ | (intro k o hk; simp -dsimp (maxDischargeDepth := 9) only [go_sem, Nat.reduceBEq, Nat.reduceLT, Nat.reduceAdd, Nat.reduceSub, Nat.reduceMul, Nat.reduceLeDiff, Int.reduceLE, Int.toNat_natCast, Int.natCast_nonneg, List.getElem?_map, List.length_map, Nat.zero_add, eq_self, Bool.not_true, Bool.not_false, *]; done) | (refine leH_upd_l (by simp -dsimp (maxDischargeDepth := 9) only [go_sem, Nat.reduceBEq, Nat.reduceLT, Nat.reduceAdd, Nat.reduceSub, Nat.reduceMul, Nat.reduceLeDiff, Int.reduceLE, Int.toNat_natCast, Int.natCast_nonneg, List.getElem?_map, List.length_map, Nat.zero_add, eq_self, Bool.not_true, Bool.not_false, *]) (fun k o hkr hk => by simp -dsimp (maxDischargeDepth := 9) only [go_sem, Nat.reduceBEq, Nat.reduceLT, Nat.reduceAdd, Nat.reduceSub, Nat.reduceMul, Nat.reduceLeDiff, Int.reduceLE, Int.toNat_natCast, Int.natCast_nonneg, List.getElem?_map, List.length_map, Nat.zero_add, eq_self, Bool.not_true, Bool.not_false, *]))) ?_)
  all_goals (refine retW_is ?_)
  all_goals simp_all [goesI, ints]

end Go.Aug

/- Where an instruction goes on, what it reads. -/
namespace Go.Aug
open Go.Proofs
set_option maxRecDepth 100000
set_option linter.unusedSimpArgs false
attribute [local irreducible] hid andK letA onSome onVar onArr arrOnly onInt onBool onFunc onTup idxA ldV ldD addO ofPart appTo fillL slA srcK nilQ retW gif sgd sguard svc sops sdops sagain aopO aLoad aStore aBin aUn aConv aLen aIndexAddr aIndex aSlice aAppend aBuild aBuildSlice aMakeSlice aField aFieldOf aCallOp deepK deepL frzM putE newK newV growV ACall roundQ thenQ inBlockQ sret cnd szs nilC

/-- What is written on the ways on. -/
def butI (i : Ins) : List (List Int) :=
  if i.op = 11 then [[]] else if i.op = 12 ∨ i.op = 13 ∨ i.op = 15 then [] else if i.op = 14 then [[], []] else if i.op = 16 then [[], [i.a]] else if mayI i = true ∧ i.l ≠ -1 then [writesI i, []] else [writesI i]

theorem goes_ok {eb : Nat → Addr} (H : Heap) (at_ : Int) (h0 : 0 ≤ at_) (h1 : at_ < 1099511627776) (i : Ins) (K : A → Heap → Prop) (hK : K (.tup [.d (ints (goesI at_ i)), .d (.slice ((butI i).map ints))]) H) : ACall Tryd.prog (seatV eb) 12 [.d (.int .i64 at_), .d i.d] H K := by
  have hw : IntKind.i64.wrap (at_ + 1) = at_ + 1 := wrap64 (by omega) (by omega)
  refine ACall.by mixed fn12 (by simp) ?_
  conv in s12 => cbv
  refine svc_start ?_
  simp -dsimp (maxDischargeDepth := 9) only [go_sem, Nat.reduceBEq, Nat.reduceLT, Nat.reduceAdd, Nat.reduceSub, Nat.reduceMul, Nat.reduceLeDiff, Int.reduceLE, Int.toNat_natCast, Int.natCast_nonneg, List.getElem?_map, List.length_map, Nat.zero_add, eq_self, Bool.not_true, Bool.not_false, Ins.d, Ins.cs]
  repeat' (first | (refine gif_split (fun h => ?_) (fun h => ?_) <;> (try simp -dsimp (maxDischargeDepth := 9) only [go_sem, Nat.reduceBEq, Nat.reduceLT, Nat.reduceAdd, Nat.reduceSub, Nat.reduceMul, Nat.reduceLeDiff, Int.reduceLE, Int.toNat_natCast, Int.natCast_nonneg, List.getElem?_map, List.length_map, Nat.zero_add, eq_self, Bool.not_true, Bool.not_false, *, Ins.d, Ins.cs])) | (refine newV_intro (fun b v hb hn hm hv => ?_); (try simp -dsimp (maxDischargeDepth := 9) only [go_sem, Nat.reduceBEq, Nat.reduceLT, Nat.reduceAdd, Nat.reduceSub, Nat.reduceMul, Nat.reduceLeDiff, Int.reduceLE, Int.toNat_natCast, Int.natCast_nonneg, List.getElem?_map, List.length_map, Nat.zero_add, eq_self, Bool.not_true, Bool.not_false, *, Ins.d, Ins.cs])) | (refine newK_intro (fun b hb hn hm => ?_); (try simp -dsimp (maxDischargeDepth := 9) only [go_sem, Nat.reduceBEq, Nat.reduceLT, Nat.reduceAdd, Nat.reduceSub, Nat.reduceMul, Nat.reduceLeDiff, Int.reduceLE, Int.toNat_natCast, Int.natCast_nonneg, List.getElem?_map, List.length_map, Nat.zero_add, eq_self, Bool.not_true, Bool.not_false, *, Ins.d, Ins.cs])) | (refine growV_intro (fun b v hb hn hm hv => ?_); (try simp -dsimp (maxDischargeDepth := 9) only [go_sem, Nat.reduceBEq, Nat.reduceLT, Nat.reduceAdd, Nat.reduceSub, Nat.reduceMul, Nat.reduceLeDiff, Int.reduceLE, Int.toNat_natCast, Int.natCast_nonneg, List.getElem?_map, List.length_map, Nat.zero_add, eq_self, Bool.not_true, Bool.not_false, *, Ins.d, Ins.cs])) | (refine andK_split (by omega) ?_; (try simp -dsimp (maxDischargeDepth := 9) only [go_sem, Nat.reduceBEq, Nat.reduceLT, Nat.reduceAdd, Nat.reduceSub, Nat.reduceMul, Nat.reduceLeDiff, Int.reduceLE, Int.toNat_natCast, Int.natCast_nonneg, List.getElem?_map, List.length_map, Nat.zero_add, eq_self, Bool.not_true, Bool.not_false, *, Ins.d, Ins.cs])) | (refine nilQ_intro ?_ (fun h => ?_) <;> (try simp -dsimp (maxDischargeDepth := 9) only [go_sem, Nat.reduceBEq, Nat.reduceLT, Nat.reduceAdd, Nat.reduceSub, Nat.reduceMul, Nat.reduceLeDiff, Int.reduceLE, Int.toNat_natCast, Int.natCast_nonneg, List.getElem?_map, List.length_map, Nat.zero_add, eq_self, Bool.not_true, Bool.not_false, *, Ins.d, Ins.cs])) | (refine And.intro ?_ ?_ <;> (try simp -dsimp (maxDischargeDepth := 9) only [go_sem, Nat.reduceBEq, Nat.reduceLT, Nat.reduceAdd, Nat.reduceSub, Nat.reduceMul, Nat.reduceLeDiff, Int.reduceLE, Int.toNat_natCast, Int.natCast_nonneg, List.getElem?_map, List.length_map, Nat.zero_add, eq_self, Bool.not_true, Bool.not_false, *, Ins.d, Ins.cs])) | (refine (fun (v : Value) (hv : v.ownBlock = some _) => ?_); (try simp -dsimp (maxDischargeDepth := 9) only [go_sem, Nat.reduceBEq, Nat.reduceLT, Nat.reduceAdd, Nat.reduceSub, Nat.reduceMul, Nat.reduceLeDiff, Int.reduceLE, Int.toNat_natCast, Int.natCast_nonneg, List.getElem?_map, List.length_map, Nat.zero_add, eq_self, Bool.not_true, Bool.not_false, *, Ins.d, Ins.cs])) | (refine may_ok _ _ _ ?_; (try simp -dsimp (maxDischargeDepth := 9) only [go_sem, Nat.reduceBEq, Nat.reduceLT, Nat.reduceAdd, Nat.reduceSub, Nat.reduceMul, Nat.reduceLeDiff, Int.reduceLE, Int.toNat_natCast, Int.natCast_nonneg, List.getElem?_map, List.length_map, Nat.zero_add, eq_self, Bool.not_true, Bool.not_false, *, Ins.d, Ins.cs])) | (refine writes_ok _ _ _ ?_; (try simp -dsimp (maxDischargeDepth := 9) only [go_sem, Nat.reduceBEq, Nat.reduceLT, Nat.reduceAdd, Nat.reduceSub, Nat.reduceMul, Nat.reduceLeDiff, Int.reduceLE, Int.toNat_natCast, Int.natCast_nonneg, List.getElem?_map, List.length_map, Nat.zero_add, eq_self, Bool.not_true, Bool.not_false, *, Ins.d, Ins.cs])))
  all_goals (first | (refine retW_tup [true, true, true] ?_; (try simp -dsimp (maxDischargeDepth := 9) only [go_sem, Nat.reduceBEq, Nat.reduceLT, Nat.reduceAdd, Nat.reduceSub, Nat.reduceMul, Nat.reduceLeDiff, Int.reduceLE, Int.toNat_natCast, Int.natCast_nonneg, List.getElem?_map, List.length_map, Nat.zero_add, eq_self, Bool.not_true, Bool.not_false, *])) | (refine retW_deep ?_; (try simp -dsimp (maxDischargeDepth := 9) only [go_sem, Nat.reduceBEq, Nat.reduceLT, Nat.reduceAdd, Nat.reduceSub, Nat.reduceMul, Nat.reduceLeDiff, Int.reduceLE, Int.toNat_natCast, Int.natCast_nonneg, List.getElem?_map, List.length_map, Nat.zero_add, eq_self, Bool.not_true, Bool.not_false, *])))
  all_goals (refine retW_drop (G := H) (by first | exact LeH.refl _ | (intro k o hk; simp -dsimp (maxDischargeDepth := 9) only [go_sem, Nat.reduceBEq, Nat.reduceLT, Nat.reduceAdd, Nat.reduceSub, Nat.reduceMul, Nat.reduceLeDiff, Int.reduceLE, Int.toNat_natCast, Int.natCast_nonneg, List.getElem?_map, List.length_map, Nat.zero_add, eq_self, Bool.not_true, Bool.not_false, *]; done) | (refine leH_upd_l (by simp -dsimp (maxDischargeDepth := 9) only [go_sem, Nat.reduceBEq, Nat.reduceLT, Nat.reduceAdd, Nat.reduceSub, Nat.reduceMul, Nat.reduceLeDiff, Int.reduceLE, Int.toNat_natCast, Int.natCast_nonneg, List.getElem?_map, List.length_map, Nat.zero_add, eq_self, Bool.not_true, Bool.not_false, *]) (fun k o hkr hk => by simp -dsimp (maxDischargeDepth := 9) only [go_sem, Nat.reduceBEq, Nat.reduceLT, Nat.reduceAdd, Nat.reduceSub, Nat.reduceMul, Nat.reduceLeDiff, Int.reduceLE, Int.toNat_natCast, Int.natCast_nonneg, List.getElem?_map, List.length_map, Nat.zero_add, eq_self, Bool.not_true, Bool.not_false, *]))) ?_)
  all_goals (refine retW_is ?_)
  all_goals simp_all [goesI, butI, ints, testsI, mayI]

structure Cod where
  name : ByteArray
  types : List D
  ins : List Bool
  det : Int
  regs : List D
  body : List Ins

def bools (l : List Bool) : D := .slice (l.map .bool)
def Cod.cs (c : Cod) : List D := [.str c.name, .slice c.types, bools c.ins, .int .i64 c.det, .slice c.regs, .slice (c.body.map Ins.d)]
def Cod.d (c : Cod) : D := .agg c.cs

/-- The places of a list that are false. -/
def outsTo (l : List Bool) : Nat → List Int
  | 0 => []
  | n + 1 => if l[n]? = some false then outsTo l n ++ [(n : Int)] else outsTo l n
def outs (l : List Bool) : List Int := outsTo l l.length

/-- What an instruction reads. -/
def readsI (c : Cod) (i : Ins) : List Int :=
  if i.op = 1 then [i.b] else if i.op = 3 ∨ i.op = 10 then i.list else if i.op = 4 ∨ i.op = 6 ∨ i.op = 7 ∨ i.op = 15 then [i.a] else if i.op = 5 ∨ i.op = 9 then [i.a, i.b] else if i.op = 8 then i.b :: i.list else if i.op = 13 then outs c.ins else []


theorem outsTo_length (l : List Bool) : ∀ n, (outsTo l n).length ≤ n
  | 0 => Nat.le_refl _
  | n + 1 => by
    simp only [outsTo]
    have := outsTo_length l n
    split <;> simp <;> omega

theorem lreads_ok {eb : Nat → Addr} (H : Heap) (c : Cod) (i : Ins) (hi : i.ok) (hc : c.ins.length < 1099511627776) (K : A → Heap → Prop) (hK : K (.d (ints (readsI c i))) H) : ACall Tryd.prog (seatV eb) 37 [.d c.d, .d i.d] H K := by
  obtain ⟨h1, h2, h3⟩ := hi
  refine ACall.by mixed fn37 (by simp) ?_
  conv in s37 => cbv
  refine svc_start ?_
  simp -dsimp (maxDischargeDepth := 9) only [go_sem, Nat.reduceBEq, Nat.reduceLT, Nat.reduceAdd, Nat.reduceSub, Nat.reduceMul, Nat.reduceLeDiff, Int.reduceLE, Int.toNat_natCast, Int.natCast_nonneg, List.getElem?_map, List.length_map, Nat.zero_add, eq_self, Bool.not_true, Bool.not_false, Ins.d, Ins.cs, Cod.d, Cod.cs]
  repeat' (first | (refine gif_split (fun h => ?_) (fun h => ?_) <;> (try simp -dsimp (maxDischargeDepth := 9) only [go_sem, Nat.reduceBEq, Nat.reduceLT, Nat.reduceAdd, Nat.reduceSub, Nat.reduceMul, Nat.reduceLeDiff, Int.reduceLE, Int.toNat_natCast, Int.natCast_nonneg, List.getElem?_map, List.length_map, Nat.zero_add, eq_self, Bool.not_true, Bool.not_false, *, Ins.d, Ins.cs, Cod.d, Cod.cs, bools])) | (refine newV_intro (fun b v hb hn hm hv => ?_); (try simp -dsimp (maxDischargeDepth := 9) only [go_sem, Nat.reduceBEq, Nat.reduceLT, Nat.reduceAdd, Nat.reduceSub, Nat.reduceMul, Nat.reduceLeDiff, Int.reduceLE, Int.toNat_natCast, Int.natCast_nonneg, List.getElem?_map, List.length_map, Nat.zero_add, eq_self, Bool.not_true, Bool.not_false, *, Ins.d, Ins.cs, Cod.d, Cod.cs, bools])) | (refine newK_intro (fun b hb hn hm => ?_); (try simp -dsimp (maxDischargeDepth := 9) only [go_sem, Nat.reduceBEq, Nat.reduceLT, Nat.reduceAdd, Nat.reduceSub, Nat.reduceMul, Nat.reduceLeDiff, Int.reduceLE, Int.toNat_natCast, Int.natCast_nonneg, List.getElem?_map, List.length_map, Nat.zero_add, eq_self, Bool.not_true, Bool.not_false, *, Ins.d, Ins.cs, Cod.d, Cod.cs, bools])) | (refine growV_intro (fun b v hb hn hm hv => ?_); (try simp -dsimp (maxDischargeDepth := 9) only [go_sem, Nat.reduceBEq, Nat.reduceLT, Nat.reduceAdd, Nat.reduceSub, Nat.reduceMul, Nat.reduceLeDiff, Int.reduceLE, Int.toNat_natCast, Int.natCast_nonneg, List.getElem?_map, List.length_map, Nat.zero_add, eq_self, Bool.not_true, Bool.not_false, *, Ins.d, Ins.cs, Cod.d, Cod.cs, bools])) | (refine andK_split (by omega) ?_; (try simp -dsimp (maxDischargeDepth := 9) only [go_sem, Nat.reduceBEq, Nat.reduceLT, Nat.reduceAdd, Nat.reduceSub, Nat.reduceMul, Nat.reduceLeDiff, Int.reduceLE, Int.toNat_natCast, Int.natCast_nonneg, List.getElem?_map, List.length_map, Nat.zero_add, eq_self, Bool.not_true, Bool.not_false, *, Ins.d, Ins.cs, Cod.d, Cod.cs, bools])) | (refine nilQ_intro ?_ (fun h => ?_) <;> (try simp -dsimp (maxDischargeDepth := 9) only [go_sem, Nat.reduceBEq, Nat.reduceLT, Nat.reduceAdd, Nat.reduceSub, Nat.reduceMul, Nat.reduceLeDiff, Int.reduceLE, Int.toNat_natCast, Int.natCast_nonneg, List.getElem?_map, List.length_map, Nat.zero_add, eq_self, Bool.not_true, Bool.not_false, *, Ins.d, Ins.cs, Cod.d, Cod.cs, bools])) | (refine And.intro ?_ ?_ <;> (try simp -dsimp (maxDischargeDepth := 9) only [go_sem, Nat.reduceBEq, Nat.reduceLT, Nat.reduceAdd, Nat.reduceSub, Nat.reduceMul, Nat.reduceLeDiff, Int.reduceLE, Int.toNat_natCast, Int.natCast_nonneg, List.getElem?_map, List.length_map, Nat.zero_add, eq_self, Bool.not_true, Bool.not_false, *, Ins.d, Ins.cs, Cod.d, Cod.cs, bools])) | (refine (fun (v : Value) (hv : v.ownBlock = some _) => ?_); (try simp -dsimp (maxDischargeDepth := 9) only [go_sem, Nat.reduceBEq, Nat.reduceLT, Nat.reduceAdd, Nat.reduceSub, Nat.reduceMul, Nat.reduceLeDiff, Int.reduceLE, Int.toNat_natCast, Int.natCast_nonneg, List.getElem?_map, List.length_map, Nat.zero_add, eq_self, Bool.not_true, Bool.not_false, *, Ins.d, Ins.cs, Cod.d, Cod.cs, bools])) | (refine clone_ok _ _ _ h1 ?_; (try simp -dsimp (maxDischargeDepth := 9) only [go_sem, Nat.reduceBEq, Nat.reduceLT, Nat.reduceAdd, Nat.reduceSub, Nat.reduceMul, Nat.reduceLeDiff, Int.reduceLE, Int.toNat_natCast, Int.natCast_nonneg, List.getElem?_map, List.length_map, Nat.zero_add, eq_self, Bool.not_true, Bool.not_false, *, Ins.d, Ins.cs, Cod.d, Cod.cs, bools])))
  all_goals try ((first | (refine retW_tup [true, true, true] ?_; (try simp -dsimp (maxDischargeDepth := 9) only [go_sem, Nat.reduceBEq, Nat.reduceLT, Nat.reduceAdd, Nat.reduceSub, Nat.reduceMul, Nat.reduceLeDiff, Int.reduceLE, Int.toNat_natCast, Int.natCast_nonneg, List.getElem?_map, List.length_map, Nat.zero_add, eq_self, Bool.not_true, Bool.not_false, *])) | (refine retW_deep ?_; (try simp -dsimp (maxDischargeDepth := 9) only [go_sem, Nat.reduceBEq, Nat.reduceLT, Nat.reduceAdd, Nat.reduceSub, Nat.reduceMul, Nat.reduceLeDiff, Int.reduceLE, Int.toNat_natCast, Int.natCast_nonneg, List.getElem?_map, List.length_map, Nat.zero_add, eq_self, Bool.not_true, Bool.not_false, *]))); refine retW_drop (G := H) (by first | exact LeH.refl _ | (intro k o hk; simp -dsimp (maxDischargeDepth := 9) only [go_sem, Nat.reduceBEq, Nat.reduceLT, Nat.reduceAdd, Nat.reduceSub, Nat.reduceMul, Nat.reduceLeDiff, Int.reduceLE, Int.toNat_natCast, Int.natCast_nonneg, List.getElem?_map, List.length_map, Nat.zero_add, eq_self, Bool.not_true, Bool.not_false, *]; done) | (refine leH_upd_l (by simp -dsimp (maxDischargeDepth := 9) only [go_sem, Nat.reduceBEq, Nat.reduceLT, Nat.reduceAdd, Nat.reduceSub, Nat.reduceMul, Nat.reduceLeDiff, Int.reduceLE, Int.toNat_natCast, Int.natCast_nonneg, List.getElem?_map, List.length_map, Nat.zero_add, eq_self, Bool.not_true, Bool.not_false, *]) (fun k o hkr hk => by simp -dsimp (maxDischargeDepth := 9) only [go_sem, Nat.reduceBEq, Nat.reduceLT, Nat.reduceAdd, Nat.reduceSub, Nat.reduceMul, Nat.reduceLeDiff, Int.reduceLE, Int.toNat_natCast, Int.natCast_nonneg, List.getElem?_map, List.length_map, Nat.zero_add, eq_self, Bool.not_true, Bool.not_false, *]))) ?_; refine retW_is ?_; simp_all [readsI, ints]; done)
  refine svc_loop (X := Nat × A) (fun x => [(5, x.2), (48, .d (bools c.ins)), (49, .d (.int .i64 c.ins.length)), (50, .d (.int .i64 x.1))]) (fun x G => x.1 ≤ c.ins.length ∧ AccAt H 3 1 ((outsTo c.ins x.1).map fun n => .int .i64 n) x.2 G)
    (fun x => c.ins.length - x.1) (0, .nils) H ⟨Nat.zero_le _, .nils ..⟩ (by simp -dsimp (maxDischargeDepth := 9) only [go_sem, Nat.reduceBEq, Nat.reduceLT, Nat.reduceAdd, Nat.reduceSub, Nat.reduceMul, Nat.reduceLeDiff, Int.reduceLE, Int.toNat_natCast, Int.natCast_nonneg, List.getElem?_map, List.length_map, Nat.zero_add, eq_self, Bool.not_true, Bool.not_false, bools, Int.natCast_zero]) (by intro k o hk; simp -dsimp (maxDischargeDepth := 9) only [go_sem, Nat.reduceBEq, Nat.reduceLT, Nat.reduceAdd, Nat.reduceSub, Nat.reduceMul, Nat.reduceLeDiff, Int.reduceLE, Int.toNat_natCast, Int.natCast_nonneg, List.getElem?_map, List.length_map, Nat.zero_add, eq_self, Bool.not_true, Bool.not_false, *]) ?_
  rintro ⟨k, a⟩ G ⟨hk, hacc⟩
  simp only at hk hacc
  simp -dsimp (maxDischargeDepth := 9) only [go_sem, Nat.reduceBEq, Nat.reduceLT, Nat.reduceAdd, Nat.reduceSub, Nat.reduceMul, Nat.reduceLeDiff, Int.reduceLE, Int.toNat_natCast, Int.natCast_nonneg, List.getElem?_map, List.length_map, Nat.zero_add, eq_self, Bool.not_true, Bool.not_false, bools]
  refine gif_split (fun h1 => ?_) (fun h1 => ?_)
  · have hk' : k < c.ins.length := by simpa using h1
    obtain ⟨x, hx⟩ : ∃ x, c.ins[k]? = some x := ⟨c.ins[k], by simp [hk']⟩
    have hw : IntKind.i64.wrap ((k : Int) + 1) = ((k + 1 : Nat) : Int) := by rw [wrap64 (by omega) (by omega)]; omega
    have hlen := outsTo_length c.ins k
    simp -dsimp (maxDischargeDepth := 9) only [go_sem, Nat.reduceBEq, Nat.reduceLT, Nat.reduceAdd, Nat.reduceSub, Nat.reduceMul, Nat.reduceLeDiff, Int.reduceLE, Int.toNat_natCast, Int.natCast_nonneg, List.getElem?_map, List.length_map, Nat.zero_add, eq_self, Bool.not_true, Bool.not_false, bools, hx, hw]
    cases x with
    | true =>
      simp -dsimp (maxDischargeDepth := 9) only [go_sem, Nat.reduceBEq, Nat.reduceLT, Nat.reduceAdd, Nat.reduceSub, Nat.reduceMul, Nat.reduceLeDiff, Int.reduceLE, Int.toNat_natCast, Int.natCast_nonneg, List.getElem?_map, List.length_map, Nat.zero_add, eq_self, Bool.not_true, Bool.not_false, hw]
      refine roundQ_next (k + 1, a) G ⟨by simp only; omega, ?_⟩ (by simp only; omega) (by simp -dsimp (maxDischargeDepth := 9) only [go_sem, Nat.reduceBEq, Nat.reduceLT, Nat.reduceAdd, Nat.reduceSub, Nat.reduceMul, Nat.reduceLeDiff, Int.reduceLE, Int.toNat_natCast, Int.natCast_nonneg, List.getElem?_map, List.length_map, Nat.zero_add, eq_self, Bool.not_true, Bool.not_false, bools]) (.refl _)
      simpa [outsTo, hx] using hacc
    | false =>
      simp -dsimp (maxDischargeDepth := 9) only [go_sem, Nat.reduceBEq, Nat.reduceLT, Nat.reduceAdd, Nat.reduceSub, Nat.reduceMul, Nat.reduceLeDiff, Int.reduceLE, Int.toNat_natCast, Int.natCast_nonneg, List.getElem?_map, List.length_map, Nat.zero_add, eq_self, Bool.not_true, Bool.not_false, hw]
      refine newV_intro (fun b v hb hn hm hv => ?_)
      simp -dsimp (maxDischargeDepth := 9) only [go_sem, Nat.reduceBEq, Nat.reduceLT, Nat.reduceAdd, Nat.reduceSub, Nat.reduceMul, Nat.reduceLeDiff, Int.reduceLE, Int.toNat_natCast, Int.natCast_nonneg, List.getElem?_map, List.length_map, Nat.zero_add, eq_self, Bool.not_true, Bool.not_false, hw]
      refine appTo_acc (hacc.up hb) (by simp; omega) (fun a' H' h' => ?_)
      simp -dsimp (maxDischargeDepth := 9) only [go_sem, Nat.reduceBEq, Nat.reduceLT, Nat.reduceAdd, Nat.reduceSub, Nat.reduceMul, Nat.reduceLeDiff, Int.reduceLE, Int.toNat_natCast, Int.natCast_nonneg, List.getElem?_map, List.length_map, Nat.zero_add, eq_self, Bool.not_true, Bool.not_false, hw]
      refine roundQ_next (k + 1, a') H' ⟨by simp only; omega, ?_⟩ (by simp only; omega) (by simp -dsimp (maxDischargeDepth := 9) only [go_sem, Nat.reduceBEq, Nat.reduceLT, Nat.reduceAdd, Nat.reduceSub, Nat.reduceMul, Nat.reduceLeDiff, Int.reduceLE, Int.toNat_natCast, Int.natCast_nonneg, List.getElem?_map, List.length_map, Nat.zero_add, eq_self, Bool.not_true, Bool.not_false, bools]) (.refl _)
      simpa [outsTo, hx] using h'
  · have hk' : k = c.ins.length := by simp at h1; omega
    simp -dsimp (maxDischargeDepth := 9) only [go_sem, Nat.reduceBEq, Nat.reduceLT, Nat.reduceAdd, Nat.reduceSub, Nat.reduceMul, Nat.reduceLeDiff, Int.reduceLE, Int.toNat_natCast, Int.natCast_nonneg, List.getElem?_map, List.length_map, Nat.zero_add, eq_self, Bool.not_true, Bool.not_false, bools]
    refine retW_acc hacc ?_
    have : readsI c i = outs c.ins := by simp_all [readsI]
    rw [this] at hK
    simpa [outs, ints, hk'] using hK

theorem reads_ok {eb : Nat → Addr} (H : Heap) (c : Cod) (i : Ins) (hi : i.ok) (hc : c.ins.length < 1099511627776) (K : A → Heap → Prop) (hK : K (.d (ints (readsI c i))) H) : ACall Tryd.prog (seatV eb) 11 [.d c.d, .d i.d] H K := by
  obtain ⟨h1, h2, h3⟩ := hi
  refine ACall.by mixed fn11 (by simp) ?_
  conv in s11 => cbv
  refine svc_start ?_
  simp -dsimp (maxDischargeDepth := 9) only [go_sem, Nat.reduceBEq, Nat.reduceLT, Nat.reduceAdd, Nat.reduceSub, Nat.reduceMul, Nat.reduceLeDiff, Int.reduceLE, Int.toNat_natCast, Int.natCast_nonneg, List.getElem?_map, List.length_map, Nat.zero_add, eq_self, Bool.not_true, Bool.not_false, Ins.d, Ins.cs, Cod.d, Cod.cs]
  repeat' (first | (refine gif_split (fun h => ?_) (fun h => ?_) <;> (try simp -dsimp (maxDischargeDepth := 9) only [go_sem, Nat.reduceBEq, Nat.reduceLT, Nat.reduceAdd, Nat.reduceSub, Nat.reduceMul, Nat.reduceLeDiff, Int.reduceLE, Int.toNat_natCast, Int.natCast_nonneg, List.getElem?_map, List.length_map, Nat.zero_add, eq_self, Bool.not_true, Bool.not_false, *, Ins.d, Ins.cs, Cod.d, Cod.cs, bools])) | (refine newV_intro (fun b v hb hn hm hv => ?_); (try simp -dsimp (maxDischargeDepth := 9) only [go_sem, Nat.reduceBEq, Nat.reduceLT, Nat.reduceAdd, Nat.reduceSub, Nat.reduceMul, Nat.reduceLeDiff, Int.reduceLE, Int.toNat_natCast, Int.natCast_nonneg, List.getElem?_map, List.length_map, Nat.zero_add, eq_self, Bool.not_true, Bool.not_false, *, Ins.d, Ins.cs, Cod.d, Cod.cs, bools])) | (refine newK_intro (fun b hb hn hm => ?_); (try simp -dsimp (maxDischargeDepth := 9) only [go_sem, Nat.reduceBEq, Nat.reduceLT, Nat.reduceAdd, Nat.reduceSub, Nat.reduceMul, Nat.reduceLeDiff, Int.reduceLE, Int.toNat_natCast, Int.natCast_nonneg, List.getElem?_map, List.length_map, Nat.zero_add, eq_self, Bool.not_true, Bool.not_false, *, Ins.d, Ins.cs, Cod.d, Cod.cs, bools])) | (refine growV_intro (fun b v hb hn hm hv => ?_); (try simp -dsimp (maxDischargeDepth := 9) only [go_sem, Nat.reduceBEq, Nat.reduceLT, Nat.reduceAdd, Nat.reduceSub, Nat.reduceMul, Nat.reduceLeDiff, Int.reduceLE, Int.toNat_natCast, Int.natCast_nonneg, List.getElem?_map, List.length_map, Nat.zero_add, eq_self, Bool.not_true, Bool.not_false, *, Ins.d, Ins.cs, Cod.d, Cod.cs, bools])) | (refine andK_split (by omega) ?_; (try simp -dsimp (maxDischargeDepth := 9) only [go_sem, Nat.reduceBEq, Nat.reduceLT, Nat.reduceAdd, Nat.reduceSub, Nat.reduceMul, Nat.reduceLeDiff, Int.reduceLE, Int.toNat_natCast, Int.natCast_nonneg, List.getElem?_map, List.length_map, Nat.zero_add, eq_self, Bool.not_true, Bool.not_false, *, Ins.d, Ins.cs, Cod.d, Cod.cs, bools])) | (refine nilQ_intro ?_ (fun h => ?_) <;> (try simp -dsimp (maxDischargeDepth := 9) only [go_sem, Nat.reduceBEq, Nat.reduceLT, Nat.reduceAdd, Nat.reduceSub, Nat.reduceMul, Nat.reduceLeDiff, Int.reduceLE, Int.toNat_natCast, Int.natCast_nonneg, List.getElem?_map, List.length_map, Nat.zero_add, eq_self, Bool.not_true, Bool.not_false, *, Ins.d, Ins.cs, Cod.d, Cod.cs, bools])) | (refine And.intro ?_ ?_ <;> (try simp -dsimp (maxDischargeDepth := 9) only [go_sem, Nat.reduceBEq, Nat.reduceLT, Nat.reduceAdd, Nat.reduceSub, Nat.reduceMul, Nat.reduceLeDiff, Int.reduceLE, Int.toNat_natCast, Int.natCast_nonneg, List.getElem?_map, List.length_map, Nat.zero_add, eq_self, Bool.not_true, Bool.not_false, *, Ins.d, Ins.cs, Cod.d, Cod.cs, bools])) | (refine (fun (v : Value) (hv : v.ownBlock = some _) => ?_); (try simp -dsimp (maxDischargeDepth := 9) only [go_sem, Nat.reduceBEq, Nat.reduceLT, Nat.reduceAdd, Nat.reduceSub, Nat.reduceMul, Nat.reduceLeDiff, Int.reduceLE, Int.toNat_natCast, Int.natCast_nonneg, List.getElem?_map, List.length_map, Nat.zero_add, eq_self, Bool.not_true, Bool.not_false, *, Ins.d, Ins.cs, Cod.d, Cod.cs, bools])))
  all_goals try ((first | (refine retW_tup [true, true, true] ?_; (try simp -dsimp (maxDischargeDepth := 9) only [go_sem, Nat.reduceBEq, Nat.reduceLT, Nat.reduceAdd, Nat.reduceSub, Nat.reduceMul, Nat.reduceLeDiff, Int.reduceLE, Int.toNat_natCast, Int.natCast_nonneg, List.getElem?_map, List.length_map, Nat.zero_add, eq_self, Bool.not_true, Bool.not_false, *])) | (refine retW_deep ?_; (try simp -dsimp (maxDischargeDepth := 9) only [go_sem, Nat.reduceBEq, Nat.reduceLT, Nat.reduceAdd, Nat.reduceSub, Nat.reduceMul, Nat.reduceLeDiff, Int.reduceLE, Int.toNat_natCast, Int.natCast_nonneg, List.getElem?_map, List.length_map, Nat.zero_add, eq_self, Bool.not_true, Bool.not_false, *]))); refine retW_drop (G := H) (by first | exact LeH.refl _ | (intro k o hk; simp -dsimp (maxDischargeDepth := 9) only [go_sem, Nat.reduceBEq, Nat.reduceLT, Nat.reduceAdd, Nat.reduceSub, Nat.reduceMul, Nat.reduceLeDiff, Int.reduceLE, Int.toNat_natCast, Int.natCast_nonneg, List.getElem?_map, List.length_map, Nat.zero_add, eq_self, Bool.not_true, Bool.not_false, *]; done) | (refine leH_upd_l (by simp -dsimp (maxDischargeDepth := 9) only [go_sem, Nat.reduceBEq, Nat.reduceLT, Nat.reduceAdd, Nat.reduceSub, Nat.reduceMul, Nat.reduceLeDiff, Int.reduceLE, Int.toNat_natCast, Int.natCast_nonneg, List.getElem?_map, List.length_map, Nat.zero_add, eq_self, Bool.not_true, Bool.not_false, *]) (fun k o hkr hk => by simp -dsimp (maxDischargeDepth := 9) only [go_sem, Nat.reduceBEq, Nat.reduceLT, Nat.reduceAdd, Nat.reduceSub, Nat.reduceMul, Nat.reduceLeDiff, Int.reduceLE, Int.toNat_natCast, Int.natCast_nonneg, List.getElem?_map, List.length_map, Nat.zero_add, eq_self, Bool.not_true, Bool.not_false, *]))) ?_; refine retW_is ?_; simp_all [readsI, ints]; done)
  refine svc_loop (X := Nat × A) (fun x => [(5, x.2), (58, .d (bools c.ins)), (59, .d (.int .i64 c.ins.length)), (60, .d (.int .i64 x.1))]) (fun x G => x.1 ≤ c.ins.length ∧ AccAt H 3 1 ((outsTo c.ins x.1).map fun n => .int .i64 n) x.2 G)
    (fun x => c.ins.length - x.1) (0, .own b v) _ ⟨Nat.zero_le _, ?_⟩ (by simp -dsimp (maxDischargeDepth := 9) only [go_sem, Nat.reduceBEq, Nat.reduceLT, Nat.reduceAdd, Nat.reduceSub, Nat.reduceMul, Nat.reduceLeDiff, Int.reduceLE, Int.toNat_natCast, Int.natCast_nonneg, List.getElem?_map, List.length_map, Nat.zero_add, eq_self, Bool.not_true, Bool.not_false, bools, Int.natCast_zero]) (.refl _) ?_
  · refine AccAt.own (by intro k o hk; simp -dsimp (maxDischargeDepth := 9) only [go_sem, Nat.reduceBEq, Nat.reduceLT, Nat.reduceAdd, Nat.reduceSub, Nat.reduceMul, Nat.reduceLeDiff, Int.reduceLE, Int.toNat_natCast, Int.natCast_nonneg, List.getElem?_map, List.length_map, Nat.zero_add, eq_self, Bool.not_true, Bool.not_false, *]) (LeH.free (by intro k o hk; simp -dsimp (maxDischargeDepth := 9) only [go_sem, Nat.reduceBEq, Nat.reduceLT, Nat.reduceAdd, Nat.reduceSub, Nat.reduceMul, Nat.reduceLeDiff, Int.reduceLE, Int.toNat_natCast, Int.natCast_nonneg, List.getElem?_map, List.length_map, Nat.zero_add, eq_self, Bool.not_true, Bool.not_false, *]) hb) hv (by simp -dsimp (maxDischargeDepth := 9) only [go_sem, Nat.reduceBEq, Nat.reduceLT, Nat.reduceAdd, Nat.reduceSub, Nat.reduceMul, Nat.reduceLeDiff, Int.reduceLE, Int.toNat_natCast, Int.natCast_nonneg, List.getElem?_map, List.length_map, Nat.zero_add, eq_self, Bool.not_true, Bool.not_false, *, outsTo])
  rintro ⟨k, a⟩ G ⟨hk, hacc⟩
  simp only at hk hacc
  simp -dsimp (maxDischargeDepth := 9) only [go_sem, Nat.reduceBEq, Nat.reduceLT, Nat.reduceAdd, Nat.reduceSub, Nat.reduceMul, Nat.reduceLeDiff, Int.reduceLE, Int.toNat_natCast, Int.natCast_nonneg, List.getElem?_map, List.length_map, Nat.zero_add, eq_self, Bool.not_true, Bool.not_false, bools]
  refine gif_split (fun h1 => ?_) (fun h1 => ?_)
  · have hk' : k < c.ins.length := by simpa using h1
    obtain ⟨x, hx⟩ : ∃ x, c.ins[k]? = some x := ⟨c.ins[k], by simp [hk']⟩
    have hw : IntKind.i64.wrap ((k : Int) + 1) = ((k + 1 : Nat) : Int) := by rw [wrap64 (by omega) (by omega)]; omega
    have hlen := outsTo_length c.ins k
    simp -dsimp (maxDischargeDepth := 9) only [go_sem, Nat.reduceBEq, Nat.reduceLT, Nat.reduceAdd, Nat.reduceSub, Nat.reduceMul, Nat.reduceLeDiff, Int.reduceLE, Int.toNat_natCast, Int.natCast_nonneg, List.getElem?_map, List.length_map, Nat.zero_add, eq_self, Bool.not_true, Bool.not_false, bools, hx, hw]
    cases x with
    | true =>
      simp -dsimp (maxDischargeDepth := 9) only [go_sem, Nat.reduceBEq, Nat.reduceLT, Nat.reduceAdd, Nat.reduceSub, Nat.reduceMul, Nat.reduceLeDiff, Int.reduceLE, Int.toNat_natCast, Int.natCast_nonneg, List.getElem?_map, List.length_map, Nat.zero_add, eq_self, Bool.not_true, Bool.not_false, hw]
      refine roundQ_next (k + 1, a) G ⟨by simp only; omega, ?_⟩ (by simp only; omega) (by simp -dsimp (maxDischargeDepth := 9) only [go_sem, Nat.reduceBEq, Nat.reduceLT, Nat.reduceAdd, Nat.reduceSub, Nat.reduceMul, Nat.reduceLeDiff, Int.reduceLE, Int.toNat_natCast, Int.natCast_nonneg, List.getElem?_map, List.length_map, Nat.zero_add, eq_self, Bool.not_true, Bool.not_false, bools]) (.refl _)
      simpa [outsTo, hx] using hacc
    | false =>
      simp -dsimp (maxDischargeDepth := 9) only [go_sem, Nat.reduceBEq, Nat.reduceLT, Nat.reduceAdd, Nat.reduceSub, Nat.reduceMul, Nat.reduceLeDiff, Int.reduceLE, Int.toNat_natCast, Int.natCast_nonneg, List.getElem?_map, List.length_map, Nat.zero_add, eq_self, Bool.not_true, Bool.not_false, hw]
      refine newV_intro (fun b v hb hn hm hv => ?_)
      simp -dsimp (maxDischargeDepth := 9) only [go_sem, Nat.reduceBEq, Nat.reduceLT, Nat.reduceAdd, Nat.reduceSub, Nat.reduceMul, Nat.reduceLeDiff, Int.reduceLE, Int.toNat_natCast, Int.natCast_nonneg, List.getElem?_map, List.length_map, Nat.zero_add, eq_self, Bool.not_true, Bool.not_false, hw]
      refine appTo_acc (hacc.up hb) (by simp; omega) (fun a' H' h' => ?_)
      simp -dsimp (maxDischargeDepth := 9) only [go_sem, Nat.reduceBEq, Nat.reduceLT, Nat.reduceAdd, Nat.reduceSub, Nat.reduceMul, Nat.reduceLeDiff, Int.reduceLE, Int.toNat_natCast, Int.natCast_nonneg, List.getElem?_map, List.length_map, Nat.zero_add, eq_self, Bool.not_true, Bool.not_false, hw]
      refine roundQ_next (k + 1, a') H' ⟨by simp only; omega, ?_⟩ (by simp only; omega) (by simp -dsimp (maxDischargeDepth := 9) only [go_sem, Nat.reduceBEq, Nat.reduceLT, Nat.reduceAdd, Nat.reduceSub, Nat.reduceMul, Nat.reduceLeDiff, Int.reduceLE, Int.toNat_natCast, Int.natCast_nonneg, List.getElem?_map, List.length_map, Nat.zero_add, eq_self, Bool.not_true, Bool.not_false, bools]) (.refl _)
      simpa [outsTo, hx] using h'
  · have hk' : k = c.ins.length := by simp at h1; omega
    simp -dsimp (maxDischargeDepth := 9) only [go_sem, Nat.reduceBEq, Nat.reduceLT, Nat.reduceAdd, Nat.reduceSub, Nat.reduceMul, Nat.reduceLeDiff, Int.reduceLE, Int.toNat_natCast, Int.natCast_nonneg, List.getElem?_map, List.length_map, Nat.zero_add, eq_self, Bool.not_true, Bool.not_false, bools]
    refine retW_acc hacc ?_
    have : readsI c i = outs c.ins := by simp_all [readsI]
    rw [this] at hK
    simpa [outs, ints, hk'] using hK

end Go.Aug

/- Comparing rows; looking through rows. -/
namespace Go.Aug
open Go.Proofs
set_option maxRecDepth 100000
set_option linter.unusedSimpArgs false
attribute [local irreducible] hid andK letA onSome onVar onArr arrOnly onInt onBool onFunc onTup idxA ldV ldD addO ofPart appTo fillL slA srcK nilQ retW gif sgd sguard svc sops sdops sagain aopO aLoad aStore aBin aUn aConv aLen aIndexAddr aIndex aSlice aAppend aBuild aBuildSlice aMakeSlice aField aFieldOf aCallOp deepK deepL frzM putE newK newV growV ACall roundQ thenQ inBlockQ sret cnd szs nilC

theorem wrapS {k : Nat} (h : k < 1099511627776) : IntKind.i64.wrap ((k : Int) + 1) = ((k + 1 : Nat) : Int) := by rw [wrap64 (by omega) (by omega)]; omega

def badI (n : Nat) (r : Int) : Bool := decide (r < 0) || decide ((n : Int) ≤ r)

theorem bad_ok {eb : Nat → Addr} (H : Heap) (c : Cod) (r : Int) (K : A → Heap → Prop) (hK : K (.d (.bool (badI c.regs.length r))) H) : ACall Tryd.prog (seatV eb) 49 [.d c.d, .d (.int .i64 r)] H K := by
  refine ACall.by mixed fn49 (by simp) ?_
  conv in s49 => cbv
  refine svc_start ?_
  simp -dsimp (maxDischargeDepth := 9) only [go_sem, Nat.reduceBEq, Nat.reduceLT, Nat.reduceAdd, Nat.reduceSub, Nat.reduceMul, Nat.reduceLeDiff, Int.reduceLE, Int.toNat_natCast, Int.natCast_nonneg, List.getElem?_map, List.length_map, Nat.zero_add, eq_self, Bool.not_true, Bool.not_false, Cod.d, Cod.cs]
  repeat' (first | (refine gif_split (fun h => ?_) (fun h => ?_) <;> (try simp -dsimp (maxDischargeDepth := 9) only [go_sem, Nat.reduceBEq, Nat.reduceLT, Nat.reduceAdd, Nat.reduceSub, Nat.reduceMul, Nat.reduceLeDiff, Int.reduceLE, Int.toNat_natCast, Int.natCast_nonneg, List.getElem?_map, List.length_map, Nat.zero_add, eq_self, Bool.not_true, Bool.not_false, *, Cod.d, Cod.cs])) | (refine newV_intro (fun b v hb hn hm hv => ?_); (try simp -dsimp (maxDischargeDepth := 9) only [go_sem, Nat.reduceBEq, Nat.reduceLT, Nat.reduceAdd, Nat.reduceSub, Nat.reduceMul, Nat.reduceLeDiff, Int.reduceLE, Int.toNat_natCast, Int.natCast_nonneg, List.getElem?_map, List.length_map, Nat.zero_add, eq_self, Bool.not_true, Bool.not_false, *, Cod.d, Cod.cs])) | (refine newK_intro (fun b hb hn hm => ?_); (try simp -dsimp (maxDischargeDepth := 9) only [go_sem, Nat.reduceBEq, Nat.reduceLT, Nat.reduceAdd, Nat.reduceSub, Nat.reduceMul, Nat.reduceLeDiff, Int.reduceLE, Int.toNat_natCast, Int.natCast_nonneg, List.getElem?_map, List.length_map, Nat.zero_add, eq_self, Bool.not_true, Bool.not_false, *, Cod.d, Cod.cs])) | (refine growV_intro (fun b v hb hn hm hv => ?_); (try simp -dsimp (maxDischargeDepth := 9) only [go_sem, Nat.reduceBEq, Nat.reduceLT, Nat.reduceAdd, Nat.reduceSub, Nat.reduceMul, Nat.reduceLeDiff, Int.reduceLE, Int.toNat_natCast, Int.natCast_nonneg, List.getElem?_map, List.length_map, Nat.zero_add, eq_self, Bool.not_true, Bool.not_false, *, Cod.d, Cod.cs])) | (refine andK_split (by omega) ?_; (try simp -dsimp (maxDischargeDepth := 9) only [go_sem, Nat.reduceBEq, Nat.reduceLT, Nat.reduceAdd, Nat.reduceSub, Nat.reduceMul, Nat.reduceLeDiff, Int.reduceLE, Int.toNat_natCast, Int.natCast_nonneg, List.getElem?_map, List.length_map, Nat.zero_add, eq_self, Bool.not_true, Bool.not_false, *, Cod.d, Cod.cs])) | (refine nilQ_intro ?_ (fun h => ?_) <;> (try simp -dsimp (maxDischargeDepth := 9) only [go_sem, Nat.reduceBEq, Nat.reduceLT, Nat.reduceAdd, Nat.reduceSub, Nat.reduceMul, Nat.reduceLeDiff, Int.reduceLE, Int.toNat_natCast, Int.natCast_nonneg, List.getElem?_map, List.length_map, Nat.zero_add, eq_self, Bool.not_true, Bool.not_false, *, Cod.d, Cod.cs])) | (refine And.intro ?_ ?_ <;> (try simp -dsimp (maxDischargeDepth := 9) only [go_sem, Nat.reduceBEq, Nat.reduceLT, Nat.reduceAdd, Nat.reduceSub, Nat.reduceMul, Nat.reduceLeDiff, Int.reduceLE, Int.toNat_natCast, Int.natCast_nonneg, List.getElem?_map, List.length_map, Nat.zero_add, eq_self, Bool.not_true, Bool.not_false, *, Cod.d, Cod.cs])) | (refine (fun (v : Value) (hv : v.ownBlock = some _) => ?_); (try simp -dsimp (maxDischargeDepth := 9) only [go_sem, Nat.reduceBEq, Nat.reduceLT, Nat.reduceAdd, Nat.reduceSub, Nat.reduceMul, Nat.reduceLeDiff, Int.reduceLE, Int.toNat_natCast, Int.natCast_nonneg, List.getElem?_map, List.length_map, Nat.zero_add, eq_self, Bool.not_true, Bool.not_false, *, Cod.d, Cod.cs])))
  all_goals (first | (refine retW_tup [true, true, true] ?_; (try simp -dsimp (maxDischargeDepth := 9) only [go_sem, Nat.reduceBEq, Nat.reduceLT, Nat.reduceAdd, Nat.reduceSub, Nat.reduceMul, Nat.reduceLeDiff, Int.reduceLE, Int.toNat_natCast, Int.natCast_nonneg, List.getElem?_map, List.length_map, Nat.zero_add, eq_self, Bool.not_true, Bool.not_false, *])) | (refine retW_deep ?_; (try simp -dsimp (maxDischargeDepth := 9) only [go_sem, Nat.reduceBEq, Nat.reduceLT, Nat.reduceAdd, Nat.reduceSub, Nat.reduceMul, Nat.reduceLeDiff, Int.reduceLE, Int.toNat_natCast, Int.natCast_nonneg, List.getElem?_map, List.length_map, Nat.zero_add, eq_self, Bool.not_true, Bool.not_false, *])))
  all_goals (refine retW_drop (G := H) (by first | exact LeH.refl _ | (intro k o hk; simp -dsimp (maxDischargeDepth := 9) only [go_sem, Nat.reduceBEq, Nat.reduceLT, Nat.reduceAdd, Nat.reduceSub, Nat.reduceMul, Nat.reduceLeDiff, Int.reduceLE, Int.toNat_natCast, Int.natCast_nonneg, List.getElem?_map, List.length_map, Nat.zero_add, eq_self, Bool.not_true, Bool.not_false, *]; done) | (refine leH_upd_l (by simp -dsimp (maxDischargeDepth := 9) only [go_sem, Nat.reduceBEq, Nat.reduceLT, Nat.reduceAdd, Nat.reduceSub, Nat.reduceMul, Nat.reduceLeDiff, Int.reduceLE, Int.toNat_natCast, Int.natCast_nonneg, List.getElem?_map, List.length_map, Nat.zero_add, eq_self, Bool.not_true, Bool.not_false, *]) (fun k o hkr hk => by simp -dsimp (maxDischargeDepth := 9) only [go_sem, Nat.reduceBEq, Nat.reduceLT, Nat.reduceAdd, Nat.reduceSub, Nat.reduceMul, Nat.reduceLeDiff, Int.reduceLE, Int.toNat_natCast, Int.natCast_nonneg, List.getElem?_map, List.length_map, Nat.zero_add, eq_self, Bool.not_true, Bool.not_false, *]))) ?_)
  all_goals (refine retW_is ?_)
  all_goals simp_all [badI]

theorem known1_ok {eb : Nat → Addr} (H : Heap) (c : Cod) (b : Nat) (hb : H b = some (.var (c.cs.map .d))) (r : Int) (K : A → Heap → Prop) (hK : K (.d (.bool (badI c.regs.length r))) H) : ACall Tryd.prog (seatV eb) 51 [.d (.int .i64 r), .ref b 0] H K := by
  refine ACall.by mixed fn51 (by simp) ?_
  conv in s51 => cbv
  refine svc_start ?_
  simp -dsimp (maxDischargeDepth := 9) only [go_sem, Nat.reduceBEq, Nat.reduceLT, Nat.reduceAdd, Nat.reduceSub, Nat.reduceMul, Nat.reduceLeDiff, Int.reduceLE, Int.toNat_natCast, Int.natCast_nonneg, List.getElem?_map, List.length_map, Nat.zero_add, eq_self, Bool.not_true, Bool.not_false, hb, Cod.cs]
  repeat' (first | (refine gif_split (fun h => ?_) (fun h => ?_) <;> (try simp -dsimp (maxDischargeDepth := 9) only [go_sem, Nat.reduceBEq, Nat.reduceLT, Nat.reduceAdd, Nat.reduceSub, Nat.reduceMul, Nat.reduceLeDiff, Int.reduceLE, Int.toNat_natCast, Int.natCast_nonneg, List.getElem?_map, List.length_map, Nat.zero_add, eq_self, Bool.not_true, Bool.not_false, *, hb, Cod.cs])) | (refine newV_intro (fun b v hb hn hm hv => ?_); (try simp -dsimp (maxDischargeDepth := 9) only [go_sem, Nat.reduceBEq, Nat.reduceLT, Nat.reduceAdd, Nat.reduceSub, Nat.reduceMul, Nat.reduceLeDiff, Int.reduceLE, Int.toNat_natCast, Int.natCast_nonneg, List.getElem?_map, List.length_map, Nat.zero_add, eq_self, Bool.not_true, Bool.not_false, *, hb, Cod.cs])) | (refine newK_intro (fun b hb hn hm => ?_); (try simp -dsimp (maxDischargeDepth := 9) only [go_sem, Nat.reduceBEq, Nat.reduceLT, Nat.reduceAdd, Nat.reduceSub, Nat.reduceMul, Nat.reduceLeDiff, Int.reduceLE, Int.toNat_natCast, Int.natCast_nonneg, List.getElem?_map, List.length_map, Nat.zero_add, eq_self, Bool.not_true, Bool.not_false, *, hb, Cod.cs])) | (refine growV_intro (fun b v hb hn hm hv => ?_); (try simp -dsimp (maxDischargeDepth := 9) only [go_sem, Nat.reduceBEq, Nat.reduceLT, Nat.reduceAdd, Nat.reduceSub, Nat.reduceMul, Nat.reduceLeDiff, Int.reduceLE, Int.toNat_natCast, Int.natCast_nonneg, List.getElem?_map, List.length_map, Nat.zero_add, eq_self, Bool.not_true, Bool.not_false, *, hb, Cod.cs])) | (refine andK_split (by omega) ?_; (try simp -dsimp (maxDischargeDepth := 9) only [go_sem, Nat.reduceBEq, Nat.reduceLT, Nat.reduceAdd, Nat.reduceSub, Nat.reduceMul, Nat.reduceLeDiff, Int.reduceLE, Int.toNat_natCast, Int.natCast_nonneg, List.getElem?_map, List.length_map, Nat.zero_add, eq_self, Bool.not_true, Bool.not_false, *, hb, Cod.cs])) | (refine nilQ_intro ?_ (fun h => ?_) <;> (try simp -dsimp (maxDischargeDepth := 9) only [go_sem, Nat.reduceBEq, Nat.reduceLT, Nat.reduceAdd, Nat.reduceSub, Nat.reduceMul, Nat.reduceLeDiff, Int.reduceLE, Int.toNat_natCast, Int.natCast_nonneg, List.getElem?_map, List.length_map, Nat.zero_add, eq_self, Bool.not_true, Bool.not_false, *, hb, Cod.cs])) | (refine And.intro ?_ ?_ <;> (try simp -dsimp (maxDischargeDepth := 9) only [go_sem, Nat.reduceBEq, Nat.reduceLT, Nat.reduceAdd, Nat.reduceSub, Nat.reduceMul, Nat.reduceLeDiff, Int.reduceLE, Int.toNat_natCast, Int.natCast_nonneg, List.getElem?_map, List.length_map, Nat.zero_add, eq_self, Bool.not_true, Bool.not_false, *, hb, Cod.cs])) | (refine (fun (v : Value) (hv : v.ownBlock = some _) => ?_); (try simp -dsimp (maxDischargeDepth := 9) only [go_sem, Nat.reduceBEq, Nat.reduceLT, Nat.reduceAdd, Nat.reduceSub, Nat.reduceMul, Nat.reduceLeDiff, Int.reduceLE, Int.toNat_natCast, Int.natCast_nonneg, List.getElem?_map, List.length_map, Nat.zero_add, eq_self, Bool.not_true, Bool.not_false, *, hb, Cod.cs])) | (refine bad_ok _ c r _ ?_; (try simp -dsimp (maxDischargeDepth := 9) only [go_sem, Nat.reduceBEq, Nat.reduceLT, Nat.reduceAdd, Nat.reduceSub, Nat.reduceMul, Nat.reduceLeDiff, Int.reduceLE, Int.toNat_natCast, Int.natCast_nonneg, List.getElem?_map, List.length_map, Nat.zero_add, eq_self, Bool.not_true, Bool.not_false, *, hb, Cod.cs])))
  all_goals (first | (refine retW_tup [true, true, true] ?_; (try simp -dsimp (maxDischargeDepth := 9) only [go_sem, Nat.reduceBEq, Nat.reduceLT, Nat.reduceAdd, Nat.reduceSub, Nat.reduceMul, Nat.reduceLeDiff, Int.reduceLE, Int.toNat_natCast, Int.natCast_nonneg, List.getElem?_map, List.length_map, Nat.zero_add, eq_self, Bool.not_true, Bool.not_false, *])) | (refine retW_deep ?_; (try simp -dsimp (maxDischargeDepth := 9) only [go_sem, Nat.reduceBEq, Nat.reduceLT, Nat.reduceAdd, Nat.reduceSub, Nat.reduceMul, Nat.reduceLeDiff, Int.reduceLE, Int.toNat_natCast, Int.natCast_nonneg, List.getElem?_map, List.length_map, Nat.zero_add, eq_self, Bool.not_true, Bool.not_false, *])))
  all_goals (refine retW_drop (G := H) (by first | exact LeH.refl _ | (intro k o hk; simp -dsimp (maxDischargeDepth := 9) only [go_sem, Nat.reduceBEq, Nat.reduceLT, Nat.reduceAdd, Nat.reduceSub, Nat.reduceMul, Nat.reduceLeDiff, Int.reduceLE, Int.toNat_natCast, Int.natCast_nonneg, List.getElem?_map, List.length_map, Nat.zero_add, eq_self, Bool.not_true, Bool.not_false, *]; done) | (refine leH_upd_l (by simp -dsimp (maxDischargeDepth := 9) only [go_sem, Nat.reduceBEq, Nat.reduceLT, Nat.reduceAdd, Nat.reduceSub, Nat.reduceMul, Nat.reduceLeDiff, Int.reduceLE, Int.toNat_natCast, Int.natCast_nonneg, List.getElem?_map, List.length_map, Nat.zero_add, eq_self, Bool.not_true, Bool.not_false, *]) (fun k o hkr hk => by simp -dsimp (maxDischargeDepth := 9) only [go_sem, Nat.reduceBEq, Nat.reduceLT, Nat.reduceAdd, Nat.reduceSub, Nat.reduceMul, Nat.reduceLeDiff, Int.reduceLE, Int.toNat_natCast, Int.natCast_nonneg, List.getElem?_map, List.length_map, Nat.zero_add, eq_self, Bool.not_true, Bool.not_false, *]))) ?_)
  all_goals (refine retW_is ?_)
  all_goals simp_all

theorem known2_ok {eb : Nat → Addr} (H : Heap) (c : Cod) (b : Nat) (hb : H b = some (.var (c.cs.map .d))) (r : Int) (K : A → Heap → Prop) (hK : K (.d (.bool (badI c.regs.length r))) H) : ACall Tryd.prog (seatV eb) 52 [.d (.int .i64 r), .ref b 0] H K := by
  refine ACall.by mixed fn52 (by simp) ?_
  conv in s52 => cbv
  refine svc_start ?_
  simp -dsimp (maxDischargeDepth := 9) only [go_sem, Nat.reduceBEq, Nat.reduceLT, Nat.reduceAdd, Nat.reduceSub, Nat.reduceMul, Nat.reduceLeDiff, Int.reduceLE, Int.toNat_natCast, Int.natCast_nonneg, List.getElem?_map, List.length_map, Nat.zero_add, eq_self, Bool.not_true, Bool.not_false, hb, Cod.cs]
  repeat' (first | (refine gif_split (fun h => ?_) (fun h => ?_) <;> (try simp -dsimp (maxDischargeDepth := 9) only [go_sem, Nat.reduceBEq, Nat.reduceLT, Nat.reduceAdd, Nat.reduceSub, Nat.reduceMul, Nat.reduceLeDiff, Int.reduceLE, Int.toNat_natCast, Int.natCast_nonneg, List.getElem?_map, List.length_map, Nat.zero_add, eq_self, Bool.not_true, Bool.not_false, *, hb, Cod.cs])) | (refine newV_intro (fun b v hb hn hm hv => ?_); (try simp -dsimp (maxDischargeDepth := 9) only [go_sem, Nat.reduceBEq, Nat.reduceLT, Nat.reduceAdd, Nat.reduceSub, Nat.reduceMul, Nat.reduceLeDiff, Int.reduceLE, Int.toNat_natCast, Int.natCast_nonneg, List.getElem?_map, List.length_map, Nat.zero_add, eq_self, Bool.not_true, Bool.not_false, *, hb, Cod.cs])) | (refine newK_intro (fun b hb hn hm => ?_); (try simp -dsimp (maxDischargeDepth := 9) only [go_sem, Nat.reduceBEq, Nat.reduceLT, Nat.reduceAdd, Nat.reduceSub, Nat.reduceMul, Nat.reduceLeDiff, Int.reduceLE, Int.toNat_natCast, Int.natCast_nonneg, List.getElem?_map, List.length_map, Nat.zero_add, eq_self, Bool.not_true, Bool.not_false, *, hb, Cod.cs])) | (refine growV_intro (fun b v hb hn hm hv => ?_); (try simp -dsimp (maxDischargeDepth := 9) only [go_sem, Nat.reduceBEq, Nat.reduceLT, Nat.reduceAdd, Nat.reduceSub, Nat.reduceMul, Nat.reduceLeDiff, Int.reduceLE, Int.toNat_natCast, Int.natCast_nonneg, List.getElem?_map, List.length_map, Nat.zero_add, eq_self, Bool.not_true, Bool.not_false, *, hb, Cod.cs])) | (refine andK_split (by omega) ?_; (try simp -dsimp (maxDischargeDepth := 9) only [go_sem, Nat.reduceBEq, Nat.reduceLT, Nat.reduceAdd, Nat.reduceSub, Nat.reduceMul, Nat.reduceLeDiff, Int.reduceLE, Int.toNat_natCast, Int.natCast_nonneg, List.getElem?_map, List.length_map, Nat.zero_add, eq_self, Bool.not_true, Bool.not_false, *, hb, Cod.cs])) | (refine nilQ_intro ?_ (fun h => ?_) <;> (try simp -dsimp (maxDischargeDepth := 9) only [go_sem, Nat.reduceBEq, Nat.reduceLT, Nat.reduceAdd, Nat.reduceSub, Nat.reduceMul, Nat.reduceLeDiff, Int.reduceLE, Int.toNat_natCast, Int.natCast_nonneg, List.getElem?_map, List.length_map, Nat.zero_add, eq_self, Bool.not_true, Bool.not_false, *, hb, Cod.cs])) | (refine And.intro ?_ ?_ <;> (try simp -dsimp (maxDischargeDepth := 9) only [go_sem, Nat.reduceBEq, Nat.reduceLT, Nat.reduceAdd, Nat.reduceSub, Nat.reduceMul, Nat.reduceLeDiff, Int.reduceLE, Int.toNat_natCast, Int.natCast_nonneg, List.getElem?_map, List.length_map, Nat.zero_add, eq_self, Bool.not_true, Bool.not_false, *, hb, Cod.cs])) | (refine (fun (v : Value) (hv : v.ownBlock = some _) => ?_); (try simp -dsimp (maxDischargeDepth := 9) only [go_sem, Nat.reduceBEq, Nat.reduceLT, Nat.reduceAdd, Nat.reduceSub, Nat.reduceMul, Nat.reduceLeDiff, Int.reduceLE, Int.toNat_natCast, Int.natCast_nonneg, List.getElem?_map, List.length_map, Nat.zero_add, eq_self, Bool.not_true, Bool.not_false, *, hb, Cod.cs])) | (refine bad_ok _ c r _ ?_; (try simp -dsimp (maxDischargeDepth := 9) only [go_sem, Nat.reduceBEq, Nat.reduceLT, Nat.reduceAdd, Nat.reduceSub, Nat.reduceMul, Nat.reduceLeDiff, Int.reduceLE, Int.toNat_natCast, Int.natCast_nonneg, List.getElem?_map, List.length_map, Nat.zero_add, eq_self, Bool.not_true, Bool.not_false, *, hb, Cod.cs])))
  all_goals (first | (refine retW_tup [true, true, true] ?_; (try simp -dsimp (maxDischargeDepth := 9) only [go_sem, Nat.reduceBEq, Nat.reduceLT, Nat.reduceAdd, Nat.reduceSub, Nat.reduceMul, Nat.reduceLeDiff, Int.reduceLE, Int.toNat_natCast, Int.natCast_nonneg, List.getElem?_map, List.length_map, Nat.zero_add, eq_self, Bool.not_true, Bool.not_false, *])) | (refine retW_deep ?_; (try simp -dsimp (maxDischargeDepth := 9) only [go_sem, Nat.reduceBEq, Nat.reduceLT, Nat.reduceAdd, Nat.reduceSub, Nat.reduceMul, Nat.reduceLeDiff, Int.reduceLE, Int.toNat_natCast, Int.natCast_nonneg, List.getElem?_map, List.length_map, Nat.zero_add, eq_self, Bool.not_true, Bool.not_false, *])))
  all_goals (refine retW_drop (G := H) (by first | exact LeH.refl _ | (intro k o hk; simp -dsimp (maxDischargeDepth := 9) only [go_sem, Nat.reduceBEq, Nat.reduceLT, Nat.reduceAdd, Nat.reduceSub, Nat.reduceMul, Nat.reduceLeDiff, Int.reduceLE, Int.toNat_natCast, Int.natCast_nonneg, List.getElem?_map, List.length_map, Nat.zero_add, eq_self, Bool.not_true, Bool.not_false, *]; done) | (refine leH_upd_l (by simp -dsimp (maxDischargeDepth := 9) only [go_sem, Nat.reduceBEq, Nat.reduceLT, Nat.reduceAdd, Nat.reduceSub, Nat.reduceMul, Nat.reduceLeDiff, Int.reduceLE, Int.toNat_natCast, Int.natCast_nonneg, List.getElem?_map, List.length_map, Nat.zero_add, eq_self, Bool.not_true, Bool.not_false, *]) (fun k o hkr hk => by simp -dsimp (maxDischargeDepth := 9) only [go_sem, Nat.reduceBEq, Nat.reduceLT, Nat.reduceAdd, Nat.reduceSub, Nat.reduceMul, Nat.reduceLeDiff, Int.reduceLE, Int.toNat_natCast, Int.natCast_nonneg, List.getElem?_map, List.length_map, Nat.zero_add, eq_self, Bool.not_true, Bool.not_false, *]))) ?_)
  all_goals (refine retW_is ?_)
  all_goals simp_all

theorem sameInts_ok {eb : Nat → Addr} (H : Heap) (a b : List Int) (ha : a.length < 1099511627776) (K : A → Heap → Prop) (hK : K (.d (.bool (decide (a = b)))) H) : ACall Tryd.prog (seatV eb) 24 [.d (ints a), .d (ints b)] H K := by
  refine ACall.by mixed fn24 (by simp) ?_
  conv in s24 => cbv
  refine svc_start ?_
  simp -dsimp (maxDischargeDepth := 9) only [go_sem, Nat.reduceBEq, Nat.reduceLT, Nat.reduceAdd, Nat.reduceSub, Nat.reduceMul, Nat.reduceLeDiff, Int.reduceLE, Int.toNat_natCast, Int.natCast_nonneg, List.getElem?_map, List.length_map, Nat.zero_add, eq_self, Bool.not_true, Bool.not_false]
  refine gif_split (fun h => ?_) (fun h => ?_)
  · simp -dsimp (maxDischargeDepth := 9) only [go_sem, Nat.reduceBEq, Nat.reduceLT, Nat.reduceAdd, Nat.reduceSub, Nat.reduceMul, Nat.reduceLeDiff, Int.reduceLE, Int.toNat_natCast, Int.natCast_nonneg, List.getElem?_map, List.length_map, Nat.zero_add, eq_self, Bool.not_true, Bool.not_false]
    refine retW_is ?_
    have : a ≠ b := by rintro rfl; simp at h
    simpa [this] using hK
  have hl : a.length = b.length := by simp at h; omega
  simp -dsimp (maxDischargeDepth := 9) only [go_sem, Nat.reduceBEq, Nat.reduceLT, Nat.reduceAdd, Nat.reduceSub, Nat.reduceMul, Nat.reduceLeDiff, Int.reduceLE, Int.toNat_natCast, Int.natCast_nonneg, List.getElem?_map, List.length_map, Nat.zero_add, eq_self, Bool.not_true, Bool.not_false]
  refine svc_loop (fun k : Nat => [(0, .d (ints a)), (1, .d (ints b)), (12, .d (.int .i64 a.length)), (13, .d (.int .i64 k))]) (fun k G => G = H ∧ k ≤ a.length ∧ ∀ j, j < k → a[j]? = b[j]?) (fun k => a.length - k) 0 H ⟨rfl, by omega, by omega⟩ (by simp -dsimp (maxDischargeDepth := 9) only [go_sem, Nat.reduceBEq, Nat.reduceLT, Nat.reduceAdd, Nat.reduceSub, Nat.reduceMul, Nat.reduceLeDiff, Int.reduceLE, Int.toNat_natCast, Int.natCast_nonneg, List.getElem?_map, List.length_map, Nat.zero_add, eq_self, Bool.not_true, Bool.not_false, Int.natCast_zero]) (.refl _) ?_
  rintro k G ⟨rfl, hk, hj⟩
  simp -dsimp (maxDischargeDepth := 9) only [go_sem, Nat.reduceBEq, Nat.reduceLT, Nat.reduceAdd, Nat.reduceSub, Nat.reduceMul, Nat.reduceLeDiff, Int.reduceLE, Int.toNat_natCast, Int.natCast_nonneg, List.getElem?_map, List.length_map, Nat.zero_add, eq_self, Bool.not_true, Bool.not_false]
  refine gif_split (fun h1 => ?_) (fun h1 => ?_)
  · have hk' : k < a.length := by simpa using h1
    obtain ⟨x, hx⟩ : ∃ x, a[k]? = some x := ⟨a[k], by simp [hk']⟩
    obtain ⟨y, hy⟩ : ∃ y, b[k]? = some y := ⟨b[k], by simp [hl ▸ hk']⟩
    have hw := wrapS (k := k) (by omega)
    simp -dsimp (maxDischargeDepth := 9) only [go_sem, Nat.reduceBEq, Nat.reduceLT, Nat.reduceAdd, Nat.reduceSub, Nat.reduceMul, Nat.reduceLeDiff, Int.reduceLE, Int.toNat_natCast, Int.natCast_nonneg, List.getElem?_map, List.length_map, Nat.zero_add, eq_self, Bool.not_true, Bool.not_false, hx, hy, hw]
    refine gif_split (fun h2 => ?_) (fun h2 => ?_)
    · simp -dsimp (maxDischargeDepth := 9) only [go_sem, Nat.reduceBEq, Nat.reduceLT, Nat.reduceAdd, Nat.reduceSub, Nat.reduceMul, Nat.reduceLeDiff, Int.reduceLE, Int.toNat_natCast, Int.natCast_nonneg, List.getElem?_map, List.length_map, Nat.zero_add, eq_self, Bool.not_true, Bool.not_false]
      refine retW_is ?_
      have : a ≠ b := by rintro rfl; rw [hx] at hy; cases hy; simp at h2
      simpa [this] using hK
    · simp -dsimp (maxDischargeDepth := 9) only [go_sem, Nat.reduceBEq, Nat.reduceLT, Nat.reduceAdd, Nat.reduceSub, Nat.reduceMul, Nat.reduceLeDiff, Int.reduceLE, Int.toNat_natCast, Int.natCast_nonneg, List.getElem?_map, List.length_map, Nat.zero_add, eq_self, Bool.not_true, Bool.not_false, hw]
      refine roundQ_next (k + 1) G ⟨rfl, by omega, ?_⟩ (by omega) (by simp -dsimp (maxDischargeDepth := 9) only [go_sem, Nat.reduceBEq, Nat.reduceLT, Nat.reduceAdd, Nat.reduceSub, Nat.reduceMul, Nat.reduceLeDiff, Int.reduceLE, Int.toNat_natCast, Int.natCast_nonneg, List.getElem?_map, List.length_map, Nat.zero_add, eq_self, Bool.not_true, Bool.not_false]) (.refl _)
      intro j hjk
      rcases Nat.lt_succ_iff_lt_or_eq.1 hjk with hj' | rfl
      · exact hj j hj'
      · rw [hx, hy]; simpa using h2
  · have hk' : k = a.length := by simp at h1; omega
    simp -dsimp (maxDischargeDepth := 9) only [go_sem, Nat.reduceBEq, Nat.reduceLT, Nat.reduceAdd, Nat.reduceSub, Nat.reduceMul, Nat.reduceLeDiff, Int.reduceLE, Int.toNat_natCast, Int.natCast_nonneg, List.getElem?_map, List.length_map, Nat.zero_add, eq_self, Bool.not_true, Bool.not_false]
    refine retW_is ?_
    have : a = b := by
      apply List.ext_getElem? 
      intro j
      by_cases hjl : j < k
      · exact hj j hjl
      · rw [List.getElem?_eq_none (by omega), List.getElem?_eq_none (by omega)]
    simpa [this] using hK

theorem indexFunc_ok {eb : Nat → Addr} (H : Heap) (l : List Int) (hl : l.length < 1099511627776) (g : FuncId) (caps : List A) (p : Int → Bool) (hg : callable Tryd.prog g = true)
    (hp : ∀ x (K : A → Heap → Prop), K (.d (.bool (p x))) H → ACall Tryd.prog (seatV eb) g (.d (.int .i64 x) :: caps) H K) (K : A → Heap → Prop)
    (h0 : ∀ n : Nat, l.any p = true → K (.d (.int .i64 n)) H) (h1 : l.any p = false → K (.d (.int .i64 (-1))) H) : ACall Tryd.prog (seatV eb) 69 [.d (ints l), .func g caps] H K := by
  refine ACall.by mixed fn69 (by simp) ?_
  conv in s69 => cbv
  refine svc_start ?_
  simp -dsimp (maxDischargeDepth := 9) only [go_sem, Nat.reduceBEq, Nat.reduceLT, Nat.reduceAdd, Nat.reduceSub, Nat.reduceMul, Nat.reduceLeDiff, Int.reduceLE, Int.toNat_natCast, Int.natCast_nonneg, List.getElem?_map, List.length_map, Nat.zero_add, eq_self, Bool.not_true, Bool.not_false]
  refine svc_loop (fun k : Nat => [(0, .d (ints l)), (1, .func g caps), (7, .d (.int .i64 l.length)), (8, .d (.int .i64 k))]) (fun k G => G = H ∧ k ≤ l.length ∧ ∀ j x, j < k → l[j]? = some x → p x = false) (fun k => l.length - k) 0 H ⟨rfl, by omega, by omega⟩ (by simp -dsimp (maxDischargeDepth := 9) only [go_sem, Nat.reduceBEq, Nat.reduceLT, Nat.reduceAdd, Nat.reduceSub, Nat.reduceMul, Nat.reduceLeDiff, Int.reduceLE, Int.toNat_natCast, Int.natCast_nonneg, List.getElem?_map, List.length_map, Nat.zero_add, eq_self, Bool.not_true, Bool.not_false, Int.natCast_zero]) (.refl _) ?_
  rintro k G ⟨rfl, hk, hj⟩
  simp -dsimp (maxDischargeDepth := 9) only [go_sem, Nat.reduceBEq, Nat.reduceLT, Nat.reduceAdd, Nat.reduceSub, Nat.reduceMul, Nat.reduceLeDiff, Int.reduceLE, Int.toNat_natCast, Int.natCast_nonneg, List.getElem?_map, List.length_map, Nat.zero_add, eq_self, Bool.not_true, Bool.not_false]
  refine gif_split (fun h => ?_) (fun h => ?_)
  · have hk' : k < l.length := by simpa using h
    obtain ⟨x, hx⟩ : ∃ x, l[k]? = some x := ⟨l[k], by simp [hk']⟩
    have hw := wrapS (k := k) (by omega)
    simp -dsimp (maxDischargeDepth := 9) only [go_sem, Nat.reduceBEq, Nat.reduceLT, Nat.reduceAdd, Nat.reduceSub, Nat.reduceMul, Nat.reduceLeDiff, Int.reduceLE, Int.toNat_natCast, Int.natCast_nonneg, List.getElem?_map, List.length_map, Nat.zero_add, eq_self, Bool.not_true, Bool.not_false, hx, hw, hg]
    refine hp x _ ?_
    simp -dsimp (maxDischargeDepth := 9) only [go_sem, Nat.reduceBEq, Nat.reduceLT, Nat.reduceAdd, Nat.reduceSub, Nat.reduceMul, Nat.reduceLeDiff, Int.reduceLE, Int.toNat_natCast, Int.natCast_nonneg, List.getElem?_map, List.length_map, Nat.zero_add, eq_self, Bool.not_true, Bool.not_false]
    refine gif_split (fun h2 => ?_) (fun h2 => ?_)
    · simp -dsimp (maxDischargeDepth := 9) only [go_sem, Nat.reduceBEq, Nat.reduceLT, Nat.reduceAdd, Nat.reduceSub, Nat.reduceMul, Nat.reduceLeDiff, Int.reduceLE, Int.toNat_natCast, Int.natCast_nonneg, List.getElem?_map, List.length_map, Nat.zero_add, eq_self, Bool.not_true, Bool.not_false]
      exact retW_is (h0 k (List.any_eq_true.2 ⟨x, List.mem_of_getElem? hx, h2⟩))
    · simp -dsimp (maxDischargeDepth := 9) only [go_sem, Nat.reduceBEq, Nat.reduceLT, Nat.reduceAdd, Nat.reduceSub, Nat.reduceMul, Nat.reduceLeDiff, Int.reduceLE, Int.toNat_natCast, Int.natCast_nonneg, List.getElem?_map, List.length_map, Nat.zero_add, eq_self, Bool.not_true, Bool.not_false, hw]
      refine roundQ_next (k + 1) G ⟨rfl, by omega, ?_⟩ (by omega) (by simp -dsimp (maxDischargeDepth := 9) only [go_sem, Nat.reduceBEq, Nat.reduceLT, Nat.reduceAdd, Nat.reduceSub, Nat.reduceMul, Nat.reduceLeDiff, Int.reduceLE, Int.toNat_natCast, Int.natCast_nonneg, List.getElem?_map, List.length_map, Nat.zero_add, eq_self, Bool.not_true, Bool.not_false]) (.refl _)
      intro j y hjk hy
      rcases Nat.lt_succ_iff_lt_or_eq.1 hjk with hj' | rfl
      · exact hj j y hj' hy
      · rw [hx] at hy; cases hy; exact h2
  · have hk' : k = l.length := by simp at h; omega
    simp -dsimp (maxDischargeDepth := 9) only [go_sem, Nat.reduceBEq, Nat.reduceLT, Nat.reduceAdd, Nat.reduceSub, Nat.reduceMul, Nat.reduceLeDiff, Int.reduceLE, Int.toNat_natCast, Int.natCast_nonneg, List.getElem?_map, List.length_map, Nat.zero_add, eq_self, Bool.not_true, Bool.not_false]
    refine retW_is (h1 ?_)
    rw [List.any_eq_false]
    intro x hx
    obtain ⟨j, hjx⟩ := List.getElem?_of_mem hx
    have := hj j x (by have := (List.getElem?_eq_some_iff.1 hjx).1; omega) hjx
    simp [this]

theorem containsFunc_ok {eb : Nat → Addr} (H : Heap) (l : List Int) (hl : l.length < 1099511627776) (g : FuncId) (caps : List A) (p : Int → Bool) (hg : callable Tryd.prog g = true)
    (hp : ∀ x (K : A → Heap → Prop), K (.d (.bool (p x))) H → ACall Tryd.prog (seatV eb) g (.d (.int .i64 x) :: caps) H K) (K : A → Heap → Prop)
    (hK : K (.d (.bool (l.any p))) H) : ACall Tryd.prog (seatV eb) 50 [.d (ints l), .func g caps] H K := by
  refine ACall.by mixed fn50 (by simp) ?_
  conv in s50 => cbv
  refine svc_start ?_
  simp -dsimp (maxDischargeDepth := 9) only [go_sem, Nat.reduceBEq, Nat.reduceLT, Nat.reduceAdd, Nat.reduceSub, Nat.reduceMul, Nat.reduceLeDiff, Int.reduceLE, Int.toNat_natCast, Int.natCast_nonneg, List.getElem?_map, List.length_map, Nat.zero_add, eq_self, Bool.not_true, Bool.not_false]
  refine indexFunc_ok H l hl g caps p hg hp _ (fun n h => ?_) (fun h => ?_)
  · simp -dsimp (maxDischargeDepth := 9) only [go_sem, Nat.reduceBEq, Nat.reduceLT, Nat.reduceAdd, Nat.reduceSub, Nat.reduceMul, Nat.reduceLeDiff, Int.reduceLE, Int.toNat_natCast, Int.natCast_nonneg, List.getElem?_map, List.length_map, Nat.zero_add, eq_self, Bool.not_true, Bool.not_false]
    refine retW_is ?_
    rwa [h] at hK
  · simp -dsimp (maxDischargeDepth := 9) only [go_sem, Nat.reduceBEq, Nat.reduceLT, Nat.reduceAdd, Nat.reduceSub, Nat.reduceMul, Nat.reduceLeDiff, Int.reduceLE, Int.toNat_natCast, Int.natCast_nonneg, List.getElem?_map, List.length_map, Nat.zero_add, eq_self, Bool.not_true, Bool.not_false]
    refine retW_is ?_
    rw [h] at hK
    simpa using hK

end Go.Aug

/- Which places are reached. -/
namespace Go.Aug
open Go.Proofs
set_option maxRecDepth 100000
set_option linter.unusedSimpArgs false
attribute [local irreducible] hid andK letA onSome onVar onArr arrOnly onInt onBool onFunc onTup idxA ldV ldD addO ofPart appTo fillL slA srcK nilQ retW gif sgd sguard svc sops sdops sagain aopO aLoad aStore aBin aUn aConv aLen aIndexAddr aIndex aSlice aAppend aBuild aBuildSlice aMakeSlice aField aFieldOf aCallOp deepK deepL frzM putE newK newV growV ACall roundQ thenQ inBlockQ sret cnd szs nilC

/-- A place is reached. -/
inductive ReachAt (body : List Ins) : Nat → Prop
  | zero (h : 0 < body.length) : ReachAt body 0
  | step {p : Nat} {i : Ins} {t : Int} (h : ReachAt body p) (hi : body[p]? = some i) (ht : t ∈ goesI p i) (h0 : 0 ≤ t) (hl : t.toNat < body.length) : ReachAt body t.toNat

def falses : List Bool → Nat
  | [] => 0
  | b :: l => (if b = true then 0 else 1) + falses l

theorem falses_set {l : List Bool} : ∀ {k : Nat}, l[k]? = some false → falses (l.set k true) + 1 = falses l := by
  induction l with
  | nil => intro k h; simp at h
  | cons b l ih =>
    intro k h
    cases k with
    | zero => simp at h; subst h; simp [falses]; omega
    | succ k =>
      simp only [List.getElem?_cons_succ] at h
      have := ih h
      simp only [List.set_cons_succ, falses]; omega
theorem falses_rep (n : Nat) : falses (List.replicate n false) = n := by
  induction n with
  | zero => rfl
  | succ n ih => simp [List.replicate_succ, falses, ih]; omega

theorem goesI_length (p : Int) (i : Ins) : (goesI p i).length ≤ 2 := by
  unfold goesI; repeat' split
  all_goals simp

structure RInv (body : List Ins) (out : List Bool) (st : List Int) : Prop where
  len : out.length = body.length
  sound : ∀ p : Nat, out[p]? = some true → ReachAt body p
  stack : ∀ t ∈ st, 0 ≤ t → t.toNat < body.length → ReachAt body t.toNat
  closed : ∀ (p : Nat) (i : Ins) (t : Int), out[p]? = some true → body[p]? = some i → t ∈ goesI p i → 0 ≤ t → t.toNat < body.length → out[t.toNat]? = some true ∨ t ∈ st
  first : 0 < body.length → out[0]? = some true ∨ (0 : Int) ∈ st
  bound : st.length + 2 * falses out ≤ 2 * body.length + 1

theorem RInv.start (body : List Ins) : RInv body (List.replicate body.length false) [0] where
  len := by simp
  sound := fun p h => by simp [List.getElem?_replicate] at h
  stack := fun t ht h0 hl => by simp at ht; subst ht; exact .zero hl
  closed := fun p i t h => by simp [List.getElem?_replicate] at h
  first := fun _ => .inr (by simp)
  bound := by simp [falses_rep]; omega

theorem RInv.skip {body : List Ins} {out : List Bool} {st : List Int} {t : Int} (h : RInv body out (st ++ [t])) (ht : 0 ≤ t → t.toNat < body.length → out[t.toNat]? = some true) : RInv body out st where
  len := h.len
  sound := h.sound
  stack := fun s hs => h.stack s (by simp [hs])
  closed := fun p i s h1 h2 h3 h4 h5 => by
    rcases h.closed p i s h1 h2 h3 h4 h5 with h6 | h6
    · exact .inl h6
    · simp only [List.mem_append, List.mem_singleton] at h6
      rcases h6 with h6 | rfl
      · exact .inr h6
      · exact .inl (ht h4 h5)
  first := fun hb => by
    rcases h.first hb with h6 | h6
    · exact .inl h6
    · simp only [List.mem_append, List.mem_singleton] at h6
      rcases h6 with h6 | h6
      · exact .inr h6
      · subst h6; exact .inl (ht (Int.le_refl _) hb)
  bound := by have := h.bound; simp at this; omega

theorem RInv.mark {body : List Ins} {out : List Bool} {st : List Int} {t : Int} {i : Ins} (h : RInv body out (st ++ [t])) (h0 : 0 ≤ t) (hl : t.toNat < body.length) (hx : out[t.toNat]? = some false) (hi : body[t.toNat]? = some i) :
    RInv body (out.set t.toNat true) (st ++ goesI t i) := by
  have hr : ReachAt body t.toNat := h.stack t (by simp) h0 hl
  have hol : t.toNat < out.length := by rw [h.len]; exact hl
  have hat : ((t.toNat : Nat) : Int) = t := Int.toNat_of_nonneg h0
  have get : ∀ p, (out.set t.toNat true)[p]? = some true ↔ p = t.toNat ∨ out[p]? = some true := by
    intro p
    rw [List.getElem?_set]
    by_cases e : t.toNat = p
    · subst e; simp [hol]
    · rw [if_neg e]; constructor
      · exact .inr
      · rintro (rfl | h)
        · exact absurd rfl e
        · exact h
  refine ⟨by simp [h.len], ?_, ?_, ?_, ?_, ?_⟩
  · intro p hp
    rcases (get p).1 hp with rfl | hp
    · exact hr
    · exact h.sound p hp
  · intro s hs hs0 hsl
    simp only [List.mem_append] at hs
    rcases hs with hs | hs
    · exact h.stack s (by simp [hs]) hs0 hsl
    · exact .step hr hi (by rw [hat]; exact hs) hs0 hsl
  · intro p j s hp hj hs hs0 hsl
    rcases (get p).1 hp with rfl | hp
    · rw [hi] at hj; cases hj
      rw [hat] at hs
      exact .inr (by simp [hs])
    · rcases h.closed p j s hp hj hs hs0 hsl with h6 | h6
      · exact .inl ((get _).2 (.inr h6))
      · simp only [List.mem_append, List.mem_singleton] at h6
        rcases h6 with h6 | rfl
        · exact .inr (by simp [h6])
        · exact .inl ((get _).2 (.inl rfl))
  · intro hb
    rcases h.first hb with h6 | h6
    · exact .inl ((get _).2 (.inr h6))
    · simp only [List.mem_append, List.mem_singleton] at h6
      rcases h6 with h6 | h6
      · exact .inr (by simp [h6])
      · subst h6; exact .inl ((get _).2 (.inl rfl))
  · have := h.bound
    have h1 := falses_set hx
    have h2 := goesI_length t i
    simp only [List.length_append, List.length_singleton] at this ⊢
    omega

theorem RInv.done {body : List Ins} {out : List Bool} (h : RInv body out []) (p : Nat) : out[p]? = some true ↔ ReachAt body p := by
  refine ⟨h.sound p, fun hr => ?_⟩
  induction hr with
  | zero hb => rcases h.first hb with h6 | h6; exact h6; simp at h6
  | step hr hi ht h0 hl ih => rcases h.closed _ _ _ ih hi ht h0 hl with h6 | h6; exact h6; simp at h6

theorem lreached_ok {eb : Nat → Addr} (H : Heap) (c : Cod) (hn : c.body.length < 1099511627776) (K : A → Heap → Prop)
    (hK : ∀ out : List Bool, out.length = c.body.length → (∀ p : Nat, out[p]? = some true ↔ ReachAt c.body p) → K (.d (bools out)) H) : ACall Tryd.prog (seatV eb) 34 [.d c.d] H K := by
  refine ACall.by mixed fn34 (by simp) ?_
  conv in s34 => cbv
  refine svc_start ?_
  simp -dsimp (maxDischargeDepth := 9) only [go_sem, Nat.reduceBEq, Nat.reduceLT, Nat.reduceAdd, Nat.reduceSub, Nat.reduceMul, Nat.reduceLeDiff, Int.reduceLE, Int.toNat_natCast, Int.natCast_nonneg, List.getElem?_map, List.length_map, Nat.zero_add, eq_self, Bool.not_true, Bool.not_false, Cod.d, Cod.cs]
  refine newK_intro (fun b1 hb1 hn1 hm1 => ?_)
  simp -dsimp (maxDischargeDepth := 9) only [go_sem, Nat.reduceBEq, Nat.reduceLT, Nat.reduceAdd, Nat.reduceSub, Nat.reduceMul, Nat.reduceLeDiff, Int.reduceLE, Int.toNat_natCast, Int.natCast_nonneg, List.getElem?_map, List.length_map, Nat.zero_add, eq_self, Bool.not_true, Bool.not_false, *]
  refine andK_split (by omega) ?_
  simp -dsimp (maxDischargeDepth := 9) only [go_sem, Nat.reduceBEq, Nat.reduceLT, Nat.reduceAdd, Nat.reduceSub, Nat.reduceMul, Nat.reduceLeDiff, Int.reduceLE, Int.toNat_natCast, Int.natCast_nonneg, List.getElem?_map, List.length_map, Nat.zero_add, eq_self, Bool.not_true, Bool.not_false, *]
  refine newV_intro (fun bo vo hbo hno hmo hvo => ?_)
  simp -dsimp (maxDischargeDepth := 9) only [go_sem, Nat.reduceBEq, Nat.reduceLT, Nat.reduceAdd, Nat.reduceSub, Nat.reduceMul, Nat.reduceLeDiff, Int.reduceLE, Int.toNat_natCast, Int.natCast_nonneg, List.getElem?_map, List.length_map, Nat.zero_add, eq_self, Bool.not_true, Bool.not_false, *]
  refine newV_intro (fun bs vs hbs hns hms hvs => ?_)
  simp -dsimp (maxDischargeDepth := 9) only [go_sem, Nat.reduceBEq, Nat.reduceLT, Nat.reduceAdd, Nat.reduceSub, Nat.reduceMul, Nat.reduceLeDiff, Int.reduceLE, Int.toNat_natCast, Int.natCast_nonneg, List.getElem?_map, List.length_map, Nat.zero_add, eq_self, Bool.not_true, Bool.not_false, *]
  have hne : eqn b1 bo = false := hno b1 (by simp -dsimp (maxDischargeDepth := 9) only [go_sem, Nat.reduceBEq, Nat.reduceLT, Nat.reduceAdd, Nat.reduceSub, Nat.reduceMul, Nat.reduceLeDiff, Int.reduceLE, Int.toNat_natCast, Int.natCast_nonneg, List.getElem?_map, List.length_map, Nat.zero_add, eq_self, Bool.not_true, Bool.not_false, *])
  refine svc_loop (X := List Bool × List Int × A) (fun x => [(1, .ref b1 0), (3, .own bo vo), (4, x.2.2)])
    (fun x G => RInv c.body x.1 x.2.1 ∧ AccAt (upd (upd H b1 (.var (c.cs.map .d))) bo (.arr 4 1 vo (x.1.map .bool))) 3 1 (x.2.1.map fun n => .int .i64 n) x.2.2 G)
    (fun x => 3 * falses x.1 + x.2.1.length) (List.replicate c.body.length false, [0], .own bs vs) _ ⟨.start _, ?_⟩ (by simp -dsimp (maxDischargeDepth := 9) only [go_sem, Nat.reduceBEq, Nat.reduceLT, Nat.reduceAdd, Nat.reduceSub, Nat.reduceMul, Nat.reduceLeDiff, Int.reduceLE, Int.toNat_natCast, Int.natCast_nonneg, List.getElem?_map, List.length_map, Nat.zero_add, eq_self, Bool.not_true, Bool.not_false]) (.refl _) ?_
  · simp only [Cod.cs, List.map_cons, List.map_nil, List.map_replicate]
    exact AccAt.own (.up (.refl _) hbs) hbs hvs (by simp -dsimp (maxDischargeDepth := 9) only [go_sem, Nat.reduceBEq, Nat.reduceLT, Nat.reduceAdd, Nat.reduceSub, Nat.reduceMul, Nat.reduceLeDiff, Int.reduceLE, Int.toNat_natCast, Int.natCast_nonneg, List.getElem?_map, List.length_map, Nat.zero_add, eq_self, Bool.not_true, Bool.not_false])
  rintro ⟨out, st, a⟩ G ⟨hinv, hacc⟩
  simp only at hinv hacc
  simp -dsimp (maxDischargeDepth := 9) only [go_sem, Nat.reduceBEq, Nat.reduceLT, Nat.reduceAdd, Nat.reduceSub, Nat.reduceMul, Nat.reduceLeDiff, Int.reduceLE, Int.toNat_natCast, Int.natCast_nonneg, List.getElem?_map, List.length_map, Nat.zero_add, eq_self, Bool.not_true, Bool.not_false]
  refine andK_split (lenable_acc hacc (by simp -dsimp (maxDischargeDepth := 9) only [go_sem, Nat.reduceBEq, Nat.reduceLT, Nat.reduceAdd, Nat.reduceSub, Nat.reduceMul, Nat.reduceLeDiff, Int.reduceLE, Int.toNat_natCast, Int.natCast_nonneg, List.getElem?_map, List.length_map, Nat.zero_add, eq_self, Bool.not_true, Bool.not_false])) ?_
  refine aLen_acc hacc ?_
  simp -dsimp (maxDischargeDepth := 9) only [go_sem, Nat.reduceBEq, Nat.reduceLT, Nat.reduceAdd, Nat.reduceSub, Nat.reduceMul, Nat.reduceLeDiff, Int.reduceLE, Int.toNat_natCast, Int.natCast_nonneg, List.getElem?_map, List.length_map, Nat.zero_add, eq_self, Bool.not_true, Bool.not_false]
  refine gif_split (fun h1 => ?_) (fun h1 => ?_)
  · have hne0 : st ≠ [] := by rintro rfl; simp at h1
    obtain ⟨st', t, rfl⟩ : ∃ st' t, st = st' ++ [t] := ⟨st.dropLast, st.getLast hne0, (List.dropLast_concat_getLast hne0).symm⟩
    obtain ⟨b, v, rfl, hgb, hv, hGb⟩ := hacc.some (by simp)
    have hle := hacc.le
    have hGo : G bo = some (.arr 4 1 vo (out.map .bool)) := hle _ _ (by simp -dsimp (maxDischargeDepth := 9) only [go_sem, Nat.reduceBEq, Nat.reduceLT, Nat.reduceAdd, Nat.reduceSub, Nat.reduceMul, Nat.reduceLeDiff, Int.reduceLE, Int.toNat_natCast, Int.natCast_nonneg, List.getElem?_map, List.length_map, Nat.zero_add, eq_self, Bool.not_true, Bool.not_false])
    have hG1 : G b1 = some (.var (c.cs.map .d)) := hle _ _ (by simp -dsimp (maxDischargeDepth := 9) only [go_sem, Nat.reduceBEq, Nat.reduceLT, Nat.reduceAdd, Nat.reduceSub, Nat.reduceMul, Nat.reduceLeDiff, Int.reduceLE, Int.toNat_natCast, Int.natCast_nonneg, List.getElem?_map, List.length_map, Nat.zero_add, eq_self, Bool.not_true, Bool.not_false, hne])
    have hbo' : eqn bo b = false := eqn_ne (by rintro rfl; rw [hGo] at hGb; cases hGb)
    have hb1' : eqn b1 b = false := eqn_ne (by rintro rfl; rw [hG1] at hGb; cases hGb)
    have hbound := hinv.bound
    simp only [List.length_append, List.length_singleton] at hbound
    have hw : IntKind.i64.wrap (((st'.length + 1 : Nat) : Int) - 1) = (st'.length : Int) := by rw [wrap64 (by omega) (by omega)]; omega
    have hget : (st' ++ [t])[st'.length]? = some t := by simp
    have htk : List.take st'.length (List.map (fun n => D.int IntKind.i64 n) (st' ++ [t])) = List.map (fun n => D.int IntKind.i64 n) st' := by simp [List.take_append]
    simp -dsimp (maxDischargeDepth := 9) only [go_sem, Nat.reduceBEq, Nat.reduceLT, Nat.reduceAdd, Nat.reduceSub, Nat.reduceMul, Nat.reduceLeDiff, Int.reduceLE, Int.toNat_natCast, Int.natCast_nonneg, List.getElem?_map, List.length_map, Nat.zero_add, eq_self, Bool.not_true, Bool.not_false, hGb, hGo, hw, hget, htk, List.length_append, Nat.lt_add_one, Nat.le_add_right]
    intro v2 hv2
    have hcut := hacc.cut (l' := st'.map fun n => D.int .i64 n) hv2
    generalize A.own b v2 = a2 at hcut ⊢
    refine gif_split (fun h2 => ?_) (fun h2 => ?_)
    · have h2' : t < 0 := by simpa using h2
      simp -dsimp (maxDischargeDepth := 9) only [go_sem, Nat.reduceBEq, Nat.reduceLT, Nat.reduceAdd, Nat.reduceSub, Nat.reduceMul, Nat.reduceLeDiff, Int.reduceLE, Int.toNat_natCast, Int.natCast_nonneg, List.getElem?_map, List.length_map, Nat.zero_add, eq_self, Bool.not_true, Bool.not_false, h2]
      exact roundQ_next (out, st', a2) _ ⟨hinv.skip (fun h0 => by omega), hcut⟩ (by simp) (by simp -dsimp (maxDischargeDepth := 9) only [go_sem, Nat.reduceBEq, Nat.reduceLT, Nat.reduceAdd, Nat.reduceSub, Nat.reduceMul, Nat.reduceLeDiff, Int.reduceLE, Int.toNat_natCast, Int.natCast_nonneg, List.getElem?_map, List.length_map, Nat.zero_add, eq_self, Bool.not_true, Bool.not_false]) (.refl _)
    have h2' : 0 ≤ t := by simpa using h2
    simp -dsimp (maxDischargeDepth := 9) only [go_sem, Nat.reduceBEq, Nat.reduceLT, Nat.reduceAdd, Nat.reduceSub, Nat.reduceMul, Nat.reduceLeDiff, Int.reduceLE, Int.toNat_natCast, Int.natCast_nonneg, List.getElem?_map, List.length_map, Nat.zero_add, eq_self, Bool.not_true, Bool.not_false, h2, hGo, hbo']
    refine gif_split (fun h3 => ?_) (fun h3 => ?_)
    · have h3' : (out.length : Int) ≤ t := by simpa using h3
      simp -dsimp (maxDischargeDepth := 9) only [go_sem, Nat.reduceBEq, Nat.reduceLT, Nat.reduceAdd, Nat.reduceSub, Nat.reduceMul, Nat.reduceLeDiff, Int.reduceLE, Int.toNat_natCast, Int.natCast_nonneg, List.getElem?_map, List.length_map, Nat.zero_add, eq_self, Bool.not_true, Bool.not_false, h2, h3]
      exact roundQ_next (out, st', a2) _ ⟨hinv.skip (fun h0 hl => by have := hinv.len; omega), hcut⟩ (by simp) (by simp -dsimp (maxDischargeDepth := 9) only [go_sem, Nat.reduceBEq, Nat.reduceLT, Nat.reduceAdd, Nat.reduceSub, Nat.reduceMul, Nat.reduceLeDiff, Int.reduceLE, Int.toNat_natCast, Int.natCast_nonneg, List.getElem?_map, List.length_map, Nat.zero_add, eq_self, Bool.not_true, Bool.not_false]) (.refl _)
    have h3' : t < (out.length : Int) := by simpa using h3
    have htl : t.toNat < out.length := by omega
    obtain ⟨x, hx⟩ : ∃ x, out[t.toNat]? = some x := ⟨out[t.toNat], by simp [htl]⟩
    obtain ⟨i, hi⟩ : ∃ i, c.body[t.toNat]? = some i := ⟨c.body[t.toNat]'(by rw [← hinv.len]; exact htl), by simp [← hinv.len, htl]⟩
    simp -dsimp (maxDischargeDepth := 9) only [go_sem, Nat.reduceBEq, Nat.reduceLT, Nat.reduceAdd, Nat.reduceSub, Nat.reduceMul, Nat.reduceLeDiff, Int.reduceLE, Int.toNat_natCast, Int.natCast_nonneg, List.getElem?_map, List.length_map, Nat.zero_add, eq_self, Bool.not_true, Bool.not_false, h2, h3, hGo, hbo', hx, h2', htl]
    cases x with
    | true =>
      simp -dsimp (maxDischargeDepth := 9) only [go_sem, Nat.reduceBEq, Nat.reduceLT, Nat.reduceAdd, Nat.reduceSub, Nat.reduceMul, Nat.reduceLeDiff, Int.reduceLE, Int.toNat_natCast, Int.natCast_nonneg, List.getElem?_map, List.length_map, Nat.zero_add, eq_self, Bool.not_true, Bool.not_false]
      exact roundQ_next (out, st', a2) _ ⟨hinv.skip (fun h0 hl => hx), hcut⟩ (by simp) (by simp -dsimp (maxDischargeDepth := 9) only [go_sem, Nat.reduceBEq, Nat.reduceLT, Nat.reduceAdd, Nat.reduceSub, Nat.reduceMul, Nat.reduceLeDiff, Int.reduceLE, Int.toNat_natCast, Int.natCast_nonneg, List.getElem?_map, List.length_map, Nat.zero_add, eq_self, Bool.not_true, Bool.not_false]) (.refl _)
    | false =>
      simp -dsimp (maxDischargeDepth := 9) only [go_sem, Nat.reduceBEq, Nat.reduceLT, Nat.reduceAdd, Nat.reduceSub, Nat.reduceMul, Nat.reduceLeDiff, Int.reduceLE, Int.toNat_natCast, Int.natCast_nonneg, List.getElem?_map, List.length_map, Nat.zero_add, eq_self, Bool.not_true, Bool.not_false, h2, h3, hGo, hbo', hx, h2', htl, hG1, hb1', hne, Cod.cs, hi, Ins.d, Ins.cs]
      have hol := hinv.len
      refine lgoes_ok _ t h2' (by omega) i _ ?_
      simp -dsimp (maxDischargeDepth := 9) only [go_sem, Nat.reduceBEq, Nat.reduceLT, Nat.reduceAdd, Nat.reduceSub, Nat.reduceMul, Nat.reduceLeDiff, Int.reduceLE, Int.toNat_natCast, Int.natCast_nonneg, List.getElem?_map, List.length_map, Nat.zero_add, eq_self, Bool.not_true, Bool.not_false]
      have hg2 := goesI_length t i
      have hcs := hcut.set (b := bo) (o := .arr 4 1 vo (out.map .bool)) (o' := .arr 4 1 vo ((out.map .bool).set t.toNat (.bool true))) (by simp -dsimp (maxDischargeDepth := 9) only [go_sem, Nat.reduceBEq, Nat.reduceLT, Nat.reduceAdd, Nat.reduceSub, Nat.reduceMul, Nat.reduceLeDiff, Int.reduceLE, Int.toNat_natCast, Int.natCast_nonneg, List.getElem?_map, List.length_map, Nat.zero_add, eq_self, Bool.not_true, Bool.not_false])
      refine appTo_acc hcs ?_ (fun a' H' h' => ?_)
      · simp only [List.length_map]; omega
      simp -dsimp (maxDischargeDepth := 9) only [go_sem, Nat.reduceBEq, Nat.reduceLT, Nat.reduceAdd, Nat.reduceSub, Nat.reduceMul, Nat.reduceLeDiff, Int.reduceLE, Int.toNat_natCast, Int.natCast_nonneg, List.getElem?_map, List.length_map, Nat.zero_add, eq_self, Bool.not_true, Bool.not_false]
      refine roundQ_next (out.set t.toNat true, st' ++ goesI t i, a') H' ⟨hinv.mark h2' (by omega) hx hi, ?_⟩ ?_ (by simp -dsimp (maxDischargeDepth := 9) only [go_sem, Nat.reduceBEq, Nat.reduceLT, Nat.reduceAdd, Nat.reduceSub, Nat.reduceMul, Nat.reduceLeDiff, Int.reduceLE, Int.toNat_natCast, Int.natCast_nonneg, List.getElem?_map, List.length_map, Nat.zero_add, eq_self, Bool.not_true, Bool.not_false]) (.refl _)
      · simpa [upd_upd, List.map_set] using h'
      · have := falses_set hx
        simp only [List.length_append, List.length_singleton]
        omega
  · have hst : st = [] := by
      cases st with
      | nil => rfl
      | cons x l => simp at h1
    subst hst
    simp -dsimp (maxDischargeDepth := 9) only [go_sem, Nat.reduceBEq, Nat.reduceLT, Nat.reduceAdd, Nat.reduceSub, Nat.reduceMul, Nat.reduceLeDiff, Int.reduceLE, Int.toNat_natCast, Int.natCast_nonneg, List.getElem?_map, List.length_map, Nat.zero_add, eq_self, Bool.not_true, Bool.not_false]
    have hGo : G bo = some (.arr 4 1 vo (out.map .bool)) := hacc.le _ _ (by simp -dsimp (maxDischargeDepth := 9) only [go_sem, Nat.reduceBEq, Nat.reduceLT, Nat.reduceAdd, Nat.reduceSub, Nat.reduceMul, Nat.reduceLeDiff, Int.reduceLE, Int.toNat_natCast, Int.natCast_nonneg, List.getElem?_map, List.length_map, Nat.zero_add, eq_self, Bool.not_true, Bool.not_false])
    refine retW_deep ?_
    simp -dsimp (maxDischargeDepth := 9) only [go_sem, Nat.reduceBEq, Nat.reduceLT, Nat.reduceAdd, Nat.reduceSub, Nat.reduceMul, Nat.reduceLeDiff, Int.reduceLE, Int.toNat_natCast, Int.natCast_nonneg, List.getElem?_map, List.length_map, Nat.zero_add, eq_self, Bool.not_true, Bool.not_false, hGo]
    refine retW_drop (G := H) ?_ (retW_is (hK out hinv.len hinv.done))
    have h0 : LeH H (upd (upd H b1 (.var (c.cs.map .d))) bo (.arr 4 1 vo (out.map .bool))) := by intro k o hk; simp -dsimp (maxDischargeDepth := 9) only [go_sem, Nat.reduceBEq, Nat.reduceLT, Nat.reduceAdd, Nat.reduceSub, Nat.reduceMul, Nat.reduceLeDiff, Int.reduceLE, Int.toNat_natCast, Int.natCast_nonneg, List.getElem?_map, List.length_map, Nat.zero_add, eq_self, Bool.not_true, Bool.not_false, *]
    exact leH_upd (LeH.free (.up (.refl _) hb1) hbo) (h0.trans hacc.le)

end Go.Aug

/- Does an instruction stand by itself? -/
namespace Go.Aug
open Go.Proofs
set_option maxRecDepth 100000
set_option linter.unusedSimpArgs false
attribute [local irreducible] hid andK letA onSome onVar onArr arrOnly onInt onBool onFunc onTup idxA ldV ldD addO ofPart appTo fillL slA srcK nilQ retW gif sgd sguard svc sops sdops sagain aopO aLoad aStore aBin aUn aConv aLen aIndexAddr aIndex aSlice aAppend aBuild aBuildSlice aMakeSlice aField aFieldOf aCallOp deepK deepL frzM putE newK newV growV ACall roundQ thenQ inBlockQ sret cnd szs nilC

/-- What an instruction must be by itself. -/
def knownI (c : Cod) (at_ : Nat) (i : Ins) : Bool :=
  !(decide (i.op < 1) || decide (17 < i.op) || (decide (i.op = 8) && !decide ((i.list.length : Int) = 1)) || (decide (i.op = 16) && badI c.regs.length i.a)) &&
  !((goesI at_ i).any fun t => badI c.body.length t) && !((readsI c i).any fun r => badI c.regs.length r) && !((writesI i).any fun r => badI c.regs.length r)

theorem writesI_length (i : Ins) (hi : i.ok) : (writesI i).length < 1099511627776 := by
  obtain ⟨h1, h2, h3⟩ := hi
  unfold writesI; repeat' split
  all_goals first | assumption | simp

theorem known_ok {eb : Nat → Addr} (H : Heap) (c : Cod) (k : Nat) (i : Ins) (hk : c.body[k]? = some i) (hn : c.body.length < 1099511627776) (hi : i.ok) (hr : (readsI c i).length < 1099511627776) (hc : c.ins.length < 1099511627776) (K : A → Heap → Prop)
    (hK : K (.d (.bool (knownI c k i))) H) : ACall Tryd.prog (seatV eb) 30 [.d c.d, .d (.int .i64 k)] H K := by
  have hkl : k < c.body.length := (List.getElem?_eq_some_iff.1 hk).1
  have hw := writesI_length i hi
  refine ACall.by mixed fn30 (by simp) ?_
  conv in s30 => cbv
  refine svc_start ?_
  simp -dsimp (maxDischargeDepth := 9) only [go_sem, Nat.reduceBEq, Nat.reduceLT, Nat.reduceAdd, Nat.reduceSub, Nat.reduceMul, Nat.reduceLeDiff, Int.reduceLE, Int.toNat_natCast, Int.natCast_nonneg, List.getElem?_map, List.length_map, Nat.zero_add, eq_self, Bool.not_true, Bool.not_false, Cod.d, Cod.cs]
  refine newK_intro (fun b1 hb1 hn1 hm1 => ?_)
  simp -dsimp (maxDischargeDepth := 9) only [go_sem, Nat.reduceBEq, Nat.reduceLT, Nat.reduceAdd, Nat.reduceSub, Nat.reduceMul, Nat.reduceLeDiff, Int.reduceLE, Int.toNat_natCast, Int.natCast_nonneg, List.getElem?_map, List.length_map, Nat.zero_add, eq_self, Bool.not_true, Bool.not_false, *, Ins.d, Ins.cs]
  refine newK_intro (fun b2 hb2 hn2 hm2 => ?_)
  simp -dsimp (maxDischargeDepth := 9) only [go_sem, Nat.reduceBEq, Nat.reduceLT, Nat.reduceAdd, Nat.reduceSub, Nat.reduceMul, Nat.reduceLeDiff, Int.reduceLE, Int.toNat_natCast, Int.natCast_nonneg, List.getElem?_map, List.length_map, Nat.zero_add, eq_self, Bool.not_true, Bool.not_false, *]
  repeat' (first | (refine gif_split (fun h => ?_) (fun h => ?_) <;> (try simp -dsimp (maxDischargeDepth := 9) only [go_sem, Nat.reduceBEq, Nat.reduceLT, Nat.reduceAdd, Nat.reduceSub, Nat.reduceMul, Nat.reduceLeDiff, Int.reduceLE, Int.toNat_natCast, Int.natCast_nonneg, List.getElem?_map, List.length_map, Nat.zero_add, eq_self, Bool.not_true, Bool.not_false, *, Ins.d, Ins.cs, Cod.d, Cod.cs])) | (refine newV_intro (fun b v hb hn hm hv => ?_); (try simp -dsimp (maxDischargeDepth := 9) only [go_sem, Nat.reduceBEq, Nat.reduceLT, Nat.reduceAdd, Nat.reduceSub, Nat.reduceMul, Nat.reduceLeDiff, Int.reduceLE, Int.toNat_natCast, Int.natCast_nonneg, List.getElem?_map, List.length_map, Nat.zero_add, eq_self, Bool.not_true, Bool.not_false, *, Ins.d, Ins.cs, Cod.d, Cod.cs])) | (refine newK_intro (fun b hb hn hm => ?_); (try simp -dsimp (maxDischargeDepth := 9) only [go_sem, Nat.reduceBEq, Nat.reduceLT, Nat.reduceAdd, Nat.reduceSub, Nat.reduceMul, Nat.reduceLeDiff, Int.reduceLE, Int.toNat_natCast, Int.natCast_nonneg, List.getElem?_map, List.length_map, Nat.zero_add, eq_self, Bool.not_true, Bool.not_false, *, Ins.d, Ins.cs, Cod.d, Cod.cs])) | (refine growV_intro (fun b v hb hn hm hv => ?_); (try simp -dsimp (maxDischargeDepth := 9) only [go_sem, Nat.reduceBEq, Nat.reduceLT, Nat.reduceAdd, Nat.reduceSub, Nat.reduceMul, Nat.reduceLeDiff, Int.reduceLE, Int.toNat_natCast, Int.natCast_nonneg, List.getElem?_map, List.length_map, Nat.zero_add, eq_self, Bool.not_true, Bool.not_false, *, Ins.d, Ins.cs, Cod.d, Cod.cs])) | (refine andK_split (by omega) ?_; (try simp -dsimp (maxDischargeDepth := 9) only [go_sem, Nat.reduceBEq, Nat.reduceLT, Nat.reduceAdd, Nat.reduceSub, Nat.reduceMul, Nat.reduceLeDiff, Int.reduceLE, Int.toNat_natCast, Int.natCast_nonneg, List.getElem?_map, List.length_map, Nat.zero_add, eq_self, Bool.not_true, Bool.not_false, *, Ins.d, Ins.cs, Cod.d, Cod.cs])) | (refine nilQ_intro ?_ (fun h => ?_) <;> (try simp -dsimp (maxDischargeDepth := 9) only [go_sem, Nat.reduceBEq, Nat.reduceLT, Nat.reduceAdd, Nat.reduceSub, Nat.reduceMul, Nat.reduceLeDiff, Int.reduceLE, Int.toNat_natCast, Int.natCast_nonneg, List.getElem?_map, List.length_map, Nat.zero_add, eq_self, Bool.not_true, Bool.not_false, *, Ins.d, Ins.cs, Cod.d, Cod.cs])) | (refine And.intro ?_ ?_ <;> (try simp -dsimp (maxDischargeDepth := 9) only [go_sem, Nat.reduceBEq, Nat.reduceLT, Nat.reduceAdd, Nat.reduceSub, Nat.reduceMul, Nat.reduceLeDiff, Int.reduceLE, Int.toNat_natCast, Int.natCast_nonneg, List.getElem?_map, List.length_map, Nat.zero_add, eq_self, Bool.not_true, Bool.not_false, *, Ins.d, Ins.cs, Cod.d, Cod.cs])) | (refine (fun (v : Value) (hv : v.ownBlock = some _) => ?_); (try simp -dsimp (maxDischargeDepth := 9) only [go_sem, Nat.reduceBEq, Nat.reduceLT, Nat.reduceAdd, Nat.reduceSub, Nat.reduceMul, Nat.reduceLeDiff, Int.reduceLE, Int.toNat_natCast, Int.natCast_nonneg, List.getElem?_map, List.length_map, Nat.zero_add, eq_self, Bool.not_true, Bool.not_false, *, Ins.d, Ins.cs, Cod.d, Cod.cs])) | (refine bad_ok _ c i.a _ ?_; (try simp -dsimp (maxDischargeDepth := 9) only [go_sem, Nat.reduceBEq, Nat.reduceLT, Nat.reduceAdd, Nat.reduceSub, Nat.reduceMul, Nat.reduceLeDiff, Int.reduceLE, Int.toNat_natCast, Int.natCast_nonneg, List.getElem?_map, List.length_map, Nat.zero_add, eq_self, Bool.not_true, Bool.not_false, *, Ins.d, Ins.cs, Cod.d, Cod.cs])) | (refine lgoes_ok _ (k : Int) (by omega) (by omega) i _ ?_; (try simp -dsimp (maxDischargeDepth := 9) only [go_sem, Nat.reduceBEq, Nat.reduceLT, Nat.reduceAdd, Nat.reduceSub, Nat.reduceMul, Nat.reduceLeDiff, Int.reduceLE, Int.toNat_natCast, Int.natCast_nonneg, List.getElem?_map, List.length_map, Nat.zero_add, eq_self, Bool.not_true, Bool.not_false, *, Ins.d, Ins.cs, Cod.d, Cod.cs])))
  all_goals try ((first | (refine retW_tup [true, true, true] ?_; (try simp -dsimp (maxDischargeDepth := 9) only [go_sem, Nat.reduceBEq, Nat.reduceLT, Nat.reduceAdd, Nat.reduceSub, Nat.reduceMul, Nat.reduceLeDiff, Int.reduceLE, Int.toNat_natCast, Int.natCast_nonneg, List.getElem?_map, List.length_map, Nat.zero_add, eq_self, Bool.not_true, Bool.not_false, *])) | (refine retW_deep ?_; (try simp -dsimp (maxDischargeDepth := 9) only [go_sem, Nat.reduceBEq, Nat.reduceLT, Nat.reduceAdd, Nat.reduceSub, Nat.reduceMul, Nat.reduceLeDiff, Int.reduceLE, Int.toNat_natCast, Int.natCast_nonneg, List.getElem?_map, List.length_map, Nat.zero_add, eq_self, Bool.not_true, Bool.not_false, *]))); refine retW_drop (G := H) (by first | exact LeH.refl _ | (intro k o hk; simp -dsimp (maxDischargeDepth := 9) only [go_sem, Nat.reduceBEq, Nat.reduceLT, Nat.reduceAdd, Nat.reduceSub, Nat.reduceMul, Nat.reduceLeDiff, Int.reduceLE, Int.toNat_natCast, Int.natCast_nonneg, List.getElem?_map, List.length_map, Nat.zero_add, eq_self, Bool.not_true, Bool.not_false, *]; done) | (refine leH_upd_l (by simp -dsimp (maxDischargeDepth := 9) only [go_sem, Nat.reduceBEq, Nat.reduceLT, Nat.reduceAdd, Nat.reduceSub, Nat.reduceMul, Nat.reduceLeDiff, Int.reduceLE, Int.toNat_natCast, Int.natCast_nonneg, List.getElem?_map, List.length_map, Nat.zero_add, eq_self, Bool.not_true, Bool.not_false, *]) (fun k o hkr hk => by simp -dsimp (maxDischargeDepth := 9) only [go_sem, Nat.reduceBEq, Nat.reduceLT, Nat.reduceAdd, Nat.reduceSub, Nat.reduceMul, Nat.reduceLeDiff, Int.reduceLE, Int.toNat_natCast, Int.natCast_nonneg, List.getElem?_map, List.length_map, Nat.zero_add, eq_self, Bool.not_true, Bool.not_false, *]))) ?_; refine retW_is ?_; simp_all [knownI]; done)
  all_goals
    have hgl := goesI_length k i
    refine svc_loop (fun j : Nat => [(2, .ref b1 0), (5, .ref b2 0), (45, .d (ints (goesI k i))), (46, .d (.int .i64 (goesI k i).length)), (47, .d (.int .i64 j))])
      (fun j G => (G b1 = some (.var (c.cs.map .d)) ∧ G b2 = some (.var (i.cs.map .d)) ∧ LeH H G) ∧ j ≤ (goesI k i).length ∧ ∀ m t, m < j → (goesI k i)[m]? = some t → badI c.body.length t = false)
      (fun j => (goesI k i).length - j) 0 _ ⟨⟨by simp -dsimp (maxDischargeDepth := 9) only [go_sem, Nat.reduceBEq, Nat.reduceLT, Nat.reduceAdd, Nat.reduceSub, Nat.reduceMul, Nat.reduceLeDiff, Int.reduceLE, Int.toNat_natCast, Int.natCast_nonneg, List.getElem?_map, List.length_map, Nat.zero_add, eq_self, Bool.not_true, Bool.not_false, *, Cod.cs], by simp -dsimp (maxDischargeDepth := 9) only [go_sem, Nat.reduceBEq, Nat.reduceLT, Nat.reduceAdd, Nat.reduceSub, Nat.reduceMul, Nat.reduceLeDiff, Int.reduceLE, Int.toNat_natCast, Int.natCast_nonneg, List.getElem?_map, List.length_map, Nat.zero_add, eq_self, Bool.not_true, Bool.not_false, *, Ins.cs], by intro k o hk; simp -dsimp (maxDischargeDepth := 9) only [go_sem, Nat.reduceBEq, Nat.reduceLT, Nat.reduceAdd, Nat.reduceSub, Nat.reduceMul, Nat.reduceLeDiff, Int.reduceLE, Int.toNat_natCast, Int.natCast_nonneg, List.getElem?_map, List.length_map, Nat.zero_add, eq_self, Bool.not_true, Bool.not_false, *]⟩, by omega, by omega⟩ (by simp -dsimp (maxDischargeDepth := 9) only [go_sem, Nat.reduceBEq, Nat.reduceLT, Nat.reduceAdd, Nat.reduceSub, Nat.reduceMul, Nat.reduceLeDiff, Int.reduceLE, Int.toNat_natCast, Int.natCast_nonneg, List.getElem?_map, List.length_map, Nat.zero_add, eq_self, Bool.not_true, Bool.not_false, Int.natCast_zero]) (.refl _) ?_
    rintro j G ⟨⟨hG1, hG2, hle⟩, hj, hall⟩
    simp -dsimp (maxDischargeDepth := 9) only [go_sem, Nat.reduceBEq, Nat.reduceLT, Nat.reduceAdd, Nat.reduceSub, Nat.reduceMul, Nat.reduceLeDiff, Int.reduceLE, Int.toNat_natCast, Int.natCast_nonneg, List.getElem?_map, List.length_map, Nat.zero_add, eq_self, Bool.not_true, Bool.not_false]
    refine gif_split (fun h1 => ?_) (fun h1 => ?_)
    · have hj' : j < (goesI k i).length := by simpa using h1
      obtain ⟨x, hx⟩ : ∃ x, (goesI k i)[j]? = some x := ⟨(goesI k i)[j], by simp [hj']⟩
      have hw1 := wrapS (k := j) (by omega)
      simp -dsimp (maxDischargeDepth := 9) only [go_sem, Nat.reduceBEq, Nat.reduceLT, Nat.reduceAdd, Nat.reduceSub, Nat.reduceMul, Nat.reduceLeDiff, Int.reduceLE, Int.toNat_natCast, Int.natCast_nonneg, List.getElem?_map, List.length_map, Nat.zero_add, eq_self, Bool.not_true, Bool.not_false, hx]
      have hbad : badI c.body.length x = true → knownI c k i = false := by
        intro hb
        have : (goesI k i).any (fun t => badI c.body.length t) = true := List.any_eq_true.2 ⟨x, List.mem_of_getElem? hx, hb⟩
        simp [knownI, this]
      refine gif_split (fun h2 => ?_) (fun h2 => ?_)
      · simp -dsimp (maxDischargeDepth := 9) only [go_sem, Nat.reduceBEq, Nat.reduceLT, Nat.reduceAdd, Nat.reduceSub, Nat.reduceMul, Nat.reduceLeDiff, Int.reduceLE, Int.toNat_natCast, Int.natCast_nonneg, List.getElem?_map, List.length_map, Nat.zero_add, eq_self, Bool.not_true, Bool.not_false, h2]
        refine retW_drop hle (retW_is ?_)
        rw [hbad (by simp [badI, h2])] at hK
        exact hK
      · simp -dsimp (maxDischargeDepth := 9) only [go_sem, Nat.reduceBEq, Nat.reduceLT, Nat.reduceAdd, Nat.reduceSub, Nat.reduceMul, Nat.reduceLeDiff, Int.reduceLE, Int.toNat_natCast, Int.natCast_nonneg, List.getElem?_map, List.length_map, Nat.zero_add, eq_self, Bool.not_true, Bool.not_false, h2, hG1, Cod.cs]
        refine gif_split (fun h3 => ?_) (fun h3 => ?_)
        · simp -dsimp (maxDischargeDepth := 9) only [go_sem, Nat.reduceBEq, Nat.reduceLT, Nat.reduceAdd, Nat.reduceSub, Nat.reduceMul, Nat.reduceLeDiff, Int.reduceLE, Int.toNat_natCast, Int.natCast_nonneg, List.getElem?_map, List.length_map, Nat.zero_add, eq_self, Bool.not_true, Bool.not_false]
          refine retW_drop hle (retW_is ?_)
          rw [hbad (by simp [badI, h3])] at hK
          exact hK
        · simp -dsimp (maxDischargeDepth := 9) only [go_sem, Nat.reduceBEq, Nat.reduceLT, Nat.reduceAdd, Nat.reduceSub, Nat.reduceMul, Nat.reduceLeDiff, Int.reduceLE, Int.toNat_natCast, Int.natCast_nonneg, List.getElem?_map, List.length_map, Nat.zero_add, eq_self, Bool.not_true, Bool.not_false, hw1]
          refine roundQ_next (j + 1) G ⟨⟨hG1, hG2, hle⟩, by omega, ?_⟩ (by omega) (by simp -dsimp (maxDischargeDepth := 9) only [go_sem, Nat.reduceBEq, Nat.reduceLT, Nat.reduceAdd, Nat.reduceSub, Nat.reduceMul, Nat.reduceLeDiff, Int.reduceLE, Int.toNat_natCast, Int.natCast_nonneg, List.getElem?_map, List.length_map, Nat.zero_add, eq_self, Bool.not_true, Bool.not_false]) (.refl _)
          intro m t hm ht
          rcases Nat.lt_succ_iff_lt_or_eq.1 hm with hm' | rfl
          · exact hall m t hm' ht
          · rw [hx] at ht; cases ht; simp [badI, h2, h3]
    · have hj' : j = (goesI k i).length := by simp at h1; omega
      simp -dsimp (maxDischargeDepth := 9) only [go_sem, Nat.reduceBEq, Nat.reduceLT, Nat.reduceAdd, Nat.reduceSub, Nat.reduceMul, Nat.reduceLeDiff, Int.reduceLE, Int.toNat_natCast, Int.natCast_nonneg, List.getElem?_map, List.length_map, Nat.zero_add, eq_self, Bool.not_true, Bool.not_false, hG1, hG2, Cod.cs, Ins.cs]
      refine lreads_ok _ c i hi hc _ ?_
      simp -dsimp (maxDischargeDepth := 9) only [go_sem, Nat.reduceBEq, Nat.reduceLT, Nat.reduceAdd, Nat.reduceSub, Nat.reduceMul, Nat.reduceLeDiff, Int.reduceLE, Int.toNat_natCast, Int.natCast_nonneg, List.getElem?_map, List.length_map, Nat.zero_add, eq_self, Bool.not_true, Bool.not_false, List.map_nil]
      refine containsFunc_ok G (readsI c i) hr 51 [.ref b1 0] (badI c.regs.length) (by kernel_rfl) (fun x K h => known1_ok G c b1 hG1 x K h) _ ?_
      simp -dsimp (maxDischargeDepth := 9) only [go_sem, Nat.reduceBEq, Nat.reduceLT, Nat.reduceAdd, Nat.reduceSub, Nat.reduceMul, Nat.reduceLeDiff, Int.reduceLE, Int.toNat_natCast, Int.natCast_nonneg, List.getElem?_map, List.length_map, Nat.zero_add, eq_self, Bool.not_true, Bool.not_false, hG1, hG2, Cod.cs, Ins.cs]
      have hany : (goesI k i).any (fun t => badI c.body.length t) = false := by
        rw [List.any_eq_false]
        intro t ht
        obtain ⟨m, hm⟩ := List.getElem?_of_mem ht
        have := hall m t (by have := (List.getElem?_eq_some_iff.1 hm).1; omega) hm
        simp [this]
      refine gif_split (fun h2 => ?_) (fun h2 => ?_)
      · simp -dsimp (maxDischargeDepth := 9) only [go_sem, Nat.reduceBEq, Nat.reduceLT, Nat.reduceAdd, Nat.reduceSub, Nat.reduceMul, Nat.reduceLeDiff, Int.reduceLE, Int.toNat_natCast, Int.natCast_nonneg, List.getElem?_map, List.length_map, Nat.zero_add, eq_self, Bool.not_true, Bool.not_false, h2, hG1, hG2, Cod.cs, Ins.cs]
        refine lwrites_ok _ i hi _ ?_
        simp -dsimp (maxDischargeDepth := 9) only [go_sem, Nat.reduceBEq, Nat.reduceLT, Nat.reduceAdd, Nat.reduceSub, Nat.reduceMul, Nat.reduceLeDiff, Int.reduceLE, Int.toNat_natCast, Int.natCast_nonneg, List.getElem?_map, List.length_map, Nat.zero_add, eq_self, Bool.not_true, Bool.not_false, h2, List.map_nil]
        refine containsFunc_ok G (writesI i) hw 52 [.ref b1 0] (badI c.regs.length) (by kernel_rfl) (fun x K h => known2_ok G c b1 hG1 x K h) _ ?_
        simp -dsimp (maxDischargeDepth := 9) only [go_sem, Nat.reduceBEq, Nat.reduceLT, Nat.reduceAdd, Nat.reduceSub, Nat.reduceMul, Nat.reduceLeDiff, Int.reduceLE, Int.toNat_natCast, Int.natCast_nonneg, List.getElem?_map, List.length_map, Nat.zero_add, eq_self, Bool.not_true, Bool.not_false, h2]
        refine retW_drop hle (retW_is ?_)
        have : knownI c k i = !(writesI i).any (badI c.regs.length) := by simp_all [knownI]
        rwa [this] at hK
      · simp -dsimp (maxDischargeDepth := 9) only [go_sem, Nat.reduceBEq, Nat.reduceLT, Nat.reduceAdd, Nat.reduceSub, Nat.reduceMul, Nat.reduceLeDiff, Int.reduceLE, Int.toNat_natCast, Int.natCast_nonneg, List.getElem?_map, List.length_map, Nat.zero_add, eq_self, Bool.not_true, Bool.not_false, h2]
        refine retW_drop hle (retW_is ?_)
        have h2' : ((readsI c i).any fun r => badI c.regs.length r) = true := by simpa only [Bool.not_eq_false'] using h2
        have : knownI c k i = false := by simp only [knownI, h2', Bool.not_true, Bool.and_false, Bool.false_and]
        rwa [this] at hK

end Go.Aug

/- Rows of rows. -/
namespace Go.Aug
open Go.Proofs
set_option maxRecDepth 100000
set_option linter.unusedSimpArgs false
attribute [local irreducible] hid andK letA onSome onVar onArr arrOnly onInt onBool onFunc onTup idxA ldV ldD addO ofPart appTo fillL slA srcK nilQ retW gif sgd sguard svc sops sdops sagain aopO aLoad aStore aBin aUn aConv aLen aIndexAddr aIndex aSlice aAppend aBuild aBuildSlice aMakeSlice aField aFieldOf aCallOp deepK deepL frzM putE newK newV growV ACall roundQ thenQ inBlockQ sret cnd szs nilC

def intss (l : List (List Int)) : D := .slice (l.map ints)

theorem sameLists_ok {eb : Nat → Addr} (H : Heap) (a b : List (List Int)) (ha : a.length < 1099511627776) (hs : ∀ x ∈ a, x.length < 1099511627776) (K : A → Heap → Prop) (hK : K (.d (.bool (decide (a = b)))) H) :
    ACall Tryd.prog (seatV eb) 14 [.d (intss a), .d (intss b)] H K := by
  refine ACall.by mixed fn14 (by simp) ?_
  conv in s14 => cbv
  refine svc_start ?_
  simp -dsimp (maxDischargeDepth := 9) only [go_sem, Nat.reduceBEq, Nat.reduceLT, Nat.reduceAdd, Nat.reduceSub, Nat.reduceMul, Nat.reduceLeDiff, Int.reduceLE, Int.toNat_natCast, Int.natCast_nonneg, List.getElem?_map, List.length_map, Nat.zero_add, eq_self, Bool.not_true, Bool.not_false, intss]
  refine gif_split (fun h => ?_) (fun h => ?_)
  · simp -dsimp (maxDischargeDepth := 9) only [go_sem, Nat.reduceBEq, Nat.reduceLT, Nat.reduceAdd, Nat.reduceSub, Nat.reduceMul, Nat.reduceLeDiff, Int.reduceLE, Int.toNat_natCast, Int.natCast_nonneg, List.getElem?_map, List.length_map, Nat.zero_add, eq_self, Bool.not_true, Bool.not_false]
    refine retW_is ?_
    have : a ≠ b := by rintro rfl; simp at h
    simpa [this] using hK
  have hl : a.length = b.length := by simp at h; omega
  simp -dsimp (maxDischargeDepth := 9) only [go_sem, Nat.reduceBEq, Nat.reduceLT, Nat.reduceAdd, Nat.reduceSub, Nat.reduceMul, Nat.reduceLeDiff, Int.reduceLE, Int.toNat_natCast, Int.natCast_nonneg, List.getElem?_map, List.length_map, Nat.zero_add, eq_self, Bool.not_true, Bool.not_false]
  refine svc_loop (fun k : Nat => [(0, .d (intss a)), (1, .d (intss b)), (12, .d (.int .i64 a.length)), (13, .d (.int .i64 k))]) (fun k G => G = H ∧ k ≤ a.length ∧ ∀ j, j < k → a[j]? = b[j]?) (fun k => a.length - k) 0 H ⟨rfl, by omega, by omega⟩ (by simp -dsimp (maxDischargeDepth := 9) only [go_sem, Nat.reduceBEq, Nat.reduceLT, Nat.reduceAdd, Nat.reduceSub, Nat.reduceMul, Nat.reduceLeDiff, Int.reduceLE, Int.toNat_natCast, Int.natCast_nonneg, List.getElem?_map, List.length_map, Nat.zero_add, eq_self, Bool.not_true, Bool.not_false, Int.natCast_zero, intss]) (.refl _) ?_
  rintro k G ⟨rfl, hk, hj⟩
  simp -dsimp (maxDischargeDepth := 9) only [go_sem, Nat.reduceBEq, Nat.reduceLT, Nat.reduceAdd, Nat.reduceSub, Nat.reduceMul, Nat.reduceLeDiff, Int.reduceLE, Int.toNat_natCast, Int.natCast_nonneg, List.getElem?_map, List.length_map, Nat.zero_add, eq_self, Bool.not_true, Bool.not_false]
  refine gif_split (fun h1 => ?_) (fun h1 => ?_)
  · have hk' : k < a.length := by simpa using h1
    obtain ⟨x, hx⟩ : ∃ x, a[k]? = some x := ⟨a[k], by simp [hk']⟩
    obtain ⟨y, hy⟩ : ∃ y, b[k]? = some y := ⟨b[k], by simp [hl ▸ hk']⟩
    have hw := wrapS (k := k) (by omega)
    simp -dsimp (maxDischargeDepth := 9) only [go_sem, Nat.reduceBEq, Nat.reduceLT, Nat.reduceAdd, Nat.reduceSub, Nat.reduceMul, Nat.reduceLeDiff, Int.reduceLE, Int.toNat_natCast, Int.natCast_nonneg, List.getElem?_map, List.length_map, Nat.zero_add, eq_self, Bool.not_true, Bool.not_false, intss, hx, hy, hw]
    refine sameInts_ok _ x y (hs x (List.mem_of_getElem? hx)) _ ?_
    simp -dsimp (maxDischargeDepth := 9) only [go_sem, Nat.reduceBEq, Nat.reduceLT, Nat.reduceAdd, Nat.reduceSub, Nat.reduceMul, Nat.reduceLeDiff, Int.reduceLE, Int.toNat_natCast, Int.natCast_nonneg, List.getElem?_map, List.length_map, Nat.zero_add, eq_self, Bool.not_true, Bool.not_false, intss, hx, hy, hw]
    refine gif_split (fun h2 => ?_) (fun h2 => ?_)
    · simp -dsimp (maxDischargeDepth := 9) only [go_sem, Nat.reduceBEq, Nat.reduceLT, Nat.reduceAdd, Nat.reduceSub, Nat.reduceMul, Nat.reduceLeDiff, Int.reduceLE, Int.toNat_natCast, Int.natCast_nonneg, List.getElem?_map, List.length_map, Nat.zero_add, eq_self, Bool.not_true, Bool.not_false]
      refine retW_is ?_
      have : a ≠ b := by rintro rfl; rw [hx] at hy; cases hy; simp at h2
      simpa [this] using hK
    · simp -dsimp (maxDischargeDepth := 9) only [go_sem, Nat.reduceBEq, Nat.reduceLT, Nat.reduceAdd, Nat.reduceSub, Nat.reduceMul, Nat.reduceLeDiff, Int.reduceLE, Int.toNat_natCast, Int.natCast_nonneg, List.getElem?_map, List.length_map, Nat.zero_add, eq_self, Bool.not_true, Bool.not_false, hw]
      refine roundQ_next (k + 1) G ⟨rfl, by omega, ?_⟩ (by omega) (by simp -dsimp (maxDischargeDepth := 9) only [go_sem, Nat.reduceBEq, Nat.reduceLT, Nat.reduceAdd, Nat.reduceSub, Nat.reduceMul, Nat.reduceLeDiff, Int.reduceLE, Int.toNat_natCast, Int.natCast_nonneg, List.getElem?_map, List.length_map, Nat.zero_add, eq_self, Bool.not_true, Bool.not_false, intss]) (.refl _)
      intro j hjk
      rcases Nat.lt_succ_iff_lt_or_eq.1 hjk with hj' | rfl
      · exact hj j hj'
      · rw [hx, hy]; simpa using h2
  · have hk' : k = a.length := by simp at h1; omega
    simp -dsimp (maxDischargeDepth := 9) only [go_sem, Nat.reduceBEq, Nat.reduceLT, Nat.reduceAdd, Nat.reduceSub, Nat.reduceMul, Nat.reduceLeDiff, Int.reduceLE, Int.toNat_natCast, Int.natCast_nonneg, List.getElem?_map, List.length_map, Nat.zero_add, eq_self, Bool.not_true, Bool.not_false]
    refine retW_is ?_
    have : a = b := by
      apply List.ext_getElem? 
      intro j
      by_cases hjl : j < k
      · exact hj j hjl
      · rw [List.getElem?_eq_none (by omega), List.getElem?_eq_none (by omega)]
    simpa [this] using hK

end Go.Aug

/- Sets of registers, by their bits. -/
namespace Go.Aug
open Go.Proofs
set_option maxRecDepth 100000
set_option linter.unusedSimpArgs false
attribute [local irreducible] hid andK letA onSome onVar onArr arrOnly onInt onBool onFunc onTup idxA ldV ldD addO ofPart appTo fillL slA srcK nilQ retW gif sgd sguard svc sops sdops sagain aopO aLoad aStore aBin aUn aConv aLen aIndexAddr aIndex aSlice aAppend aBuild aBuildSlice aMakeSlice aField aFieldOf aCallOp deepK deepL frzM putE newK newV growV ACall roundQ thenQ inBlockQ sret cnd szs nilC

theorem and63 (r : Nat) (h : r < 4611686018427387904) : bits .and .i64 (r : Int) 63 = ((r % 64 : Nat) : Int) := by
  have := (bits_nat .i64 63 (by decide) (fun n h0 h1 => wrap64 (by omega) (by omega)) r 63 (by omega) (by omega)).1
  rw [show (63 : Int) = ((63 : Nat) : Int) from rfl, this]
  have e : r &&& 63 = r % 64 := Nat.and_two_pow_sub_one_eq_mod r 6
  rw [e]
theorem fdiv_nat (a b : Nat) : Int.fdiv (a : Int) (b : Int) = ((a / b : Nat) : Int) := by
  rw [Int.fdiv_eq_ediv_of_nonneg _ (Int.natCast_nonneg b)]; rfl
theorem shr6 (r : Nat) : Int.fdiv (r : Int) (2 ^ (min (Int.toNat 6) 64)) = ((r / 64 : Nat) : Int) := by
  have : (2 : Int) ^ (min (Int.toNat 6) 64) = ((64 : Nat) : Int) := by decide
  rw [this]; exact fdiv_nat _ _
theorem shrw (w r : Nat) (h : r < 64) : Int.fdiv (w : Int) (2 ^ (min r 64)) = ((w / 2 ^ r : Nat) : Int) := by
  have h1 : min r 64 = r := Nat.min_eq_left (by omega)
  have : (2 : Int) ^ r = ((2 ^ r : Nat) : Int) := by simp
  rw [h1, this]; exact fdiv_nat _ _
theorem and1 (w : Nat) (h : w < 18446744073709551616) : bits .and .u64 (w : Int) 1 = ((w % 2 : Nat) : Int) := by
  rw [show (1 : Int) = ((1 : Nat) : Int) from rfl, bits_and_u64_nat w 1 h (by omega), Nat.and_one_is_mod]
theorem shl1 (r : Nat) (h : r < 64) : IntKind.u64.wrap (1 * 2 ^ (min r 64)) = ((2 ^ r : Nat) : Int) := by
  have h1 : min r 64 = r := Nat.min_eq_left (by omega)
  have h2 : 2 ^ r < 18446744073709551616 := Nat.lt_of_lt_of_le (Nat.pow_lt_pow_right (by omega) h) (by decide)
  have : (2 : Int) ^ r = ((2 ^ r : Nat) : Int) := by simp
  rw [h1, this, IntKind.wrap_u64, Int.one_mul]; exact Int.emod_eq_of_lt (Int.natCast_nonneg _) (Int.ofNat_lt.2 h2)

/-- The words of a set, as values. -/
def wordsD (ws : List Nat) : List D := ws.map fun (w : Nat) => .int .u64 (w : Int)
def wordsOk (ws : List Nat) : Prop := ∀ w ∈ ws, w < 18446744073709551616
/-- Is a register in a set? -/
def hasW (ws : List Nat) (r : Nat) : Bool := ((ws[r / 64]?).getD 0).testBit (r % 64)

theorem szs_words (ws : List Nat) : szs 1 (wordsD ws) = True := szs_map (f := fun (w : Nat) => .int .u64 (w : Int)) (fun _ => rfl) ws

theorem has_ok {eb : Nat → Addr} (H : Heap) (b : Nat) (v : Value) (ws : List Nat) (hb : H b = some (.arr 89 1 v (wordsD ws))) (hw : wordsOk ws) (r : Nat) (hr : r / 64 < ws.length) (hl : r < 4611686018427387904) (K : A → Heap → Prop)
    (hK : K (.d (.bool (hasW ws r))) H) : ACall Tryd.prog (seatV eb) 38 [.own b v, .d (.int .i64 r)] H K := by
  obtain ⟨w, hx⟩ : ∃ w, ws[r / 64]? = some w := ⟨ws[r / 64], by simp [hr]⟩
  have hw1 : w < 18446744073709551616 := hw w (List.mem_of_getElem? hx)
  have hd : (wordsD ws)[r / 64]? = some (.int .u64 (w : Int)) := by simp [wordsD, hx]
  have hlen : (wordsD ws).length = ws.length := by simp [wordsD]
  have hs : w / 2 ^ (r % 64) < 18446744073709551616 := Nat.lt_of_le_of_lt (Nat.div_le_self _ _) hw1
  refine ACall.by mixed fn38 (by simp) ?_
  conv in s38 => cbv
  refine svc_start ?_
  simp -dsimp (maxDischargeDepth := 9) only [go_sem, Nat.reduceBEq, Nat.reduceLT, Nat.reduceAdd, Nat.reduceSub, Nat.reduceMul, Nat.reduceLeDiff, Int.reduceLE, Int.toNat_natCast, Int.natCast_nonneg, List.getElem?_map, List.length_map, Nat.zero_add, eq_self, Bool.not_true, Bool.not_false, hb, shr6, and63 r hl, hd, hlen, hr, shrw w (r % 64) (by omega), and1 _ hs]
  refine retW_is ?_
  have : hasW ws r = decide (((w / 2 ^ (r % 64) % 2 : Nat) : Int) = 1) := by
    simp only [hasW, hx, Option.getD_some, Nat.testBit_eq_decide_div_mod_eq]
    congr 1
    simp only [eq_iff_iff]
    omega
  rwa [this] at hK

def putW (ws : List Nat) (r : Nat) : List Nat := ws.set (r / 64) (((ws[r / 64]?).getD 0) ||| 2 ^ (r % 64))

theorem put_ok {eb : Nat → Addr} (H : Heap) (b : Nat) (v : Value) (ws : List Nat) (hb : H b = some (.arr 89 1 v (wordsD ws))) (hw : wordsOk ws) (r : Nat) (hr : r / 64 < ws.length) (hl : r < 4611686018427387904) (K : A → Heap → Prop)
    (hK : K (.tup []) (upd H b (.arr 89 1 v (wordsD (putW ws r))))) : ACall Tryd.prog (seatV eb) 39 [.own b v, .d (.int .i64 r)] H K := by
  obtain ⟨w, hx⟩ : ∃ w, ws[r / 64]? = some w := ⟨ws[r / 64], by simp [hr]⟩
  have hw1 : w < 18446744073709551616 := hw w (List.mem_of_getElem? hx)
  have hd : (wordsD ws)[r / 64]? = some (.int .u64 (w : Int)) := by simp [wordsD, hx]
  have hlen : (wordsD ws).length = ws.length := by simp [wordsD]
  have h2 : 2 ^ (r % 64) < 18446744073709551616 := Nat.lt_of_lt_of_le (Nat.pow_lt_pow_right (by omega) (Nat.mod_lt r (by omega))) (by decide)
  have ho : bits .or .u64 (w : Int) ((2 ^ (r % 64) : Nat) : Int) = ((w ||| 2 ^ (r % 64) : Nat) : Int) := bits_or_u64_nat _ _ hw1 h2
  have hset : (wordsD ws).set (r / 64) (.int .u64 ((w ||| 2 ^ (r % 64) : Nat) : Int)) = wordsD (putW ws r) := by simp [wordsD, putW, hx, List.map_set]
  refine ACall.by mixed fn39 (by simp) ?_
  conv in s39 => cbv
  refine svc_start ?_
  simp -dsimp (maxDischargeDepth := 9) only [go_sem, Nat.reduceBEq, Nat.reduceLT, Nat.reduceAdd, Nat.reduceSub, Nat.reduceMul, Nat.reduceLeDiff, Int.reduceLE, Int.toNat_natCast, Int.natCast_nonneg, List.getElem?_map, List.length_map, Nat.zero_add, eq_self, Bool.not_true, Bool.not_false, hb, shr6, and63 r hl, hd, hlen, hr, shl1 (r % 64) (by omega), ho, hset]
  repeat' (first | (refine gif_split (fun h => ?_) (fun h => ?_) <;> (try simp -dsimp (maxDischargeDepth := 9) only [go_sem, Nat.reduceBEq, Nat.reduceLT, Nat.reduceAdd, Nat.reduceSub, Nat.reduceMul, Nat.reduceLeDiff, Int.reduceLE, Int.toNat_natCast, Int.natCast_nonneg, List.getElem?_map, List.length_map, Nat.zero_add, eq_self, Bool.not_true, Bool.not_false, *, hb, shr6, and63 r hl, hd, hlen, hr, shl1 (r % 64) (by omega), ho, hset])) | (refine newV_intro (fun b v hb hn hm hv => ?_); (try simp -dsimp (maxDischargeDepth := 9) only [go_sem, Nat.reduceBEq, Nat.reduceLT, Nat.reduceAdd, Nat.reduceSub, Nat.reduceMul, Nat.reduceLeDiff, Int.reduceLE, Int.toNat_natCast, Int.natCast_nonneg, List.getElem?_map, List.length_map, Nat.zero_add, eq_self, Bool.not_true, Bool.not_false, *, hb, shr6, and63 r hl, hd, hlen, hr, shl1 (r % 64) (by omega), ho, hset])) | (refine newK_intro (fun b hb hn hm => ?_); (try simp -dsimp (maxDischargeDepth := 9) only [go_sem, Nat.reduceBEq, Nat.reduceLT, Nat.reduceAdd, Nat.reduceSub, Nat.reduceMul, Nat.reduceLeDiff, Int.reduceLE, Int.toNat_natCast, Int.natCast_nonneg, List.getElem?_map, List.length_map, Nat.zero_add, eq_self, Bool.not_true, Bool.not_false, *, hb, shr6, and63 r hl, hd, hlen, hr, shl1 (r % 64) (by omega), ho, hset])) | (refine growV_intro (fun b v hb hn hm hv => ?_); (try simp -dsimp (maxDischargeDepth := 9) only [go_sem, Nat.reduceBEq, Nat.reduceLT, Nat.reduceAdd, Nat.reduceSub, Nat.reduceMul, Nat.reduceLeDiff, Int.reduceLE, Int.toNat_natCast, Int.natCast_nonneg, List.getElem?_map, List.length_map, Nat.zero_add, eq_self, Bool.not_true, Bool.not_false, *, hb, shr6, and63 r hl, hd, hlen, hr, shl1 (r % 64) (by omega), ho, hset])) | (refine andK_split (by omega) ?_; (try simp -dsimp (maxDischargeDepth := 9) only [go_sem, Nat.reduceBEq, Nat.reduceLT, Nat.reduceAdd, Nat.reduceSub, Nat.reduceMul, Nat.reduceLeDiff, Int.reduceLE, Int.toNat_natCast, Int.natCast_nonneg, List.getElem?_map, List.length_map, Nat.zero_add, eq_self, Bool.not_true, Bool.not_false, *, hb, shr6, and63 r hl, hd, hlen, hr, shl1 (r % 64) (by omega), ho, hset])) | (refine nilQ_intro ?_ (fun h => ?_) <;> (try simp -dsimp (maxDischargeDepth := 9) only [go_sem, Nat.reduceBEq, Nat.reduceLT, Nat.reduceAdd, Nat.reduceSub, Nat.reduceMul, Nat.reduceLeDiff, Int.reduceLE, Int.toNat_natCast, Int.natCast_nonneg, List.getElem?_map, List.length_map, Nat.zero_add, eq_self, Bool.not_true, Bool.not_false, *, hb, shr6, and63 r hl, hd, hlen, hr, shl1 (r % 64) (by omega), ho, hset])) | (refine And.intro ?_ ?_ <;> (try simp -dsimp (maxDischargeDepth := 9) only [go_sem, Nat.reduceBEq, Nat.reduceLT, Nat.reduceAdd, Nat.reduceSub, Nat.reduceMul, Nat.reduceLeDiff, Int.reduceLE, Int.toNat_natCast, Int.natCast_nonneg, List.getElem?_map, List.length_map, Nat.zero_add, eq_self, Bool.not_true, Bool.not_false, *, hb, shr6, and63 r hl, hd, hlen, hr, shl1 (r % 64) (by omega), ho, hset])) | (refine (fun (v : Value) (hv : v.ownBlock = some _) => ?_); (try simp -dsimp (maxDischargeDepth := 9) only [go_sem, Nat.reduceBEq, Nat.reduceLT, Nat.reduceAdd, Nat.reduceSub, Nat.reduceMul, Nat.reduceLeDiff, Int.reduceLE, Int.toNat_natCast, Int.natCast_nonneg, List.getElem?_map, List.length_map, Nat.zero_add, eq_self, Bool.not_true, Bool.not_false, *, hb, shr6, and63 r hl, hd, hlen, hr, shl1 (r % 64) (by omega), ho, hset])))
  exact retW_is hK

/-- The registers of a set below a bound, rising. -/
def listTo (ws : List Nat) : Nat → List Int
  | 0 => []
  | n + 1 => if hasW ws n = true then listTo ws n ++ [(n : Int)] else listTo ws n
def listW (ws : List Nat) : List Int := listTo ws (ws.length * 64)
theorem listTo_length (ws : List Nat) : ∀ n, (listTo ws n).length ≤ n
  | 0 => Nat.le_refl _
  | n + 1 => by
    simp only [listTo]
    have := listTo_length ws n
    split <;> simp <;> omega

theorem list_ok {eb : Nat → Addr} (H : Heap) (b : Nat) (v : Value) (ws : List Nat) (hb : H b = some (.arr 89 1 v (wordsD ws))) (hw : wordsOk ws) (hn : ws.length < 1048576) (K : A → Heap → Prop)
    (hK : K (.d (ints (listW ws))) H) : ACall Tryd.prog (seatV eb) 20 [.own b v] H K := by
  have hlen : (wordsD ws).length = ws.length := by simp [wordsD]
  have hm : IntKind.i64.wrap ((ws.length : Int) * 64) = ((ws.length * 64 : Nat) : Int) := by rw [wrap64 (by omega) (by omega)]; omega
  refine ACall.by mixed fn20 (by simp) ?_
  conv in s20 => cbv
  refine svc_start ?_
  simp -dsimp (maxDischargeDepth := 9) only [go_sem, Nat.reduceBEq, Nat.reduceLT, Nat.reduceAdd, Nat.reduceSub, Nat.reduceMul, Nat.reduceLeDiff, Int.reduceLE, Int.toNat_natCast, Int.natCast_nonneg, List.getElem?_map, List.length_map, Nat.zero_add, eq_self, Bool.not_true, Bool.not_false, hb, hlen, hm]
  refine svc_loop (X := Nat × A) (fun x => [(0, .own b v), (3, x.2), (7, .d (.int .i64 ((ws.length * 64 : Nat) : Int))), (8, .d (.int .i64 x.1))]) (fun x G => x.1 ≤ ws.length * 64 ∧ AccAt H 3 1 ((listTo ws x.1).map fun n => .int .i64 n) x.2 G)
    (fun x => ws.length * 64 - x.1) (0, .nils) H ⟨Nat.zero_le _, .nils ..⟩ (by simp -dsimp (maxDischargeDepth := 9) only [go_sem, Nat.reduceBEq, Nat.reduceLT, Nat.reduceAdd, Nat.reduceSub, Nat.reduceMul, Nat.reduceLeDiff, Int.reduceLE, Int.toNat_natCast, Int.natCast_nonneg, List.getElem?_map, List.length_map, Nat.zero_add, eq_self, Bool.not_true, Bool.not_false, Int.natCast_zero]) (.refl _) ?_
  rintro ⟨k, a⟩ G ⟨hk, hacc⟩
  simp only at hk hacc
  have hG : G b = some (.arr 89 1 v (wordsD ws)) := hacc.le _ _ hb
  simp -dsimp (maxDischargeDepth := 9) only [go_sem, Nat.reduceBEq, Nat.reduceLT, Nat.reduceAdd, Nat.reduceSub, Nat.reduceMul, Nat.reduceLeDiff, Int.reduceLE, Int.toNat_natCast, Int.natCast_nonneg, List.getElem?_map, List.length_map, Nat.zero_add, eq_self, Bool.not_true, Bool.not_false]
  refine gif_split (fun h1 => ?_) (fun h1 => ?_)
  · have hk' : k < ws.length * 64 := by simp at h1; omega
    have hw1 := wrapS (k := k) (by omega)
    have hlt := listTo_length ws k
    simp -dsimp (maxDischargeDepth := 9) only [go_sem, Nat.reduceBEq, Nat.reduceLT, Nat.reduceAdd, Nat.reduceSub, Nat.reduceMul, Nat.reduceLeDiff, Int.reduceLE, Int.toNat_natCast, Int.natCast_nonneg, List.getElem?_map, List.length_map, Nat.zero_add, eq_self, Bool.not_true, Bool.not_false]
    refine has_ok _ b v ws hG hw k (by omega) (by omega) _ ?_
    simp -dsimp (maxDischargeDepth := 9) only [go_sem, Nat.reduceBEq, Nat.reduceLT, Nat.reduceAdd, Nat.reduceSub, Nat.reduceMul, Nat.reduceLeDiff, Int.reduceLE, Int.toNat_natCast, Int.natCast_nonneg, List.getElem?_map, List.length_map, Nat.zero_add, eq_self, Bool.not_true, Bool.not_false]
    refine gif_split (fun h2 => ?_) (fun h2 => ?_)
    · simp -dsimp (maxDischargeDepth := 9) only [go_sem, Nat.reduceBEq, Nat.reduceLT, Nat.reduceAdd, Nat.reduceSub, Nat.reduceMul, Nat.reduceLeDiff, Int.reduceLE, Int.toNat_natCast, Int.natCast_nonneg, List.getElem?_map, List.length_map, Nat.zero_add, eq_self, Bool.not_true, Bool.not_false]
      refine newV_intro (fun b v hb hn hm hv => ?_)
      simp -dsimp (maxDischargeDepth := 9) only [go_sem, Nat.reduceBEq, Nat.reduceLT, Nat.reduceAdd, Nat.reduceSub, Nat.reduceMul, Nat.reduceLeDiff, Int.reduceLE, Int.toNat_natCast, Int.natCast_nonneg, List.getElem?_map, List.length_map, Nat.zero_add, eq_self, Bool.not_true, Bool.not_false]
      refine appTo_acc (hacc.up hb) (by simp; omega) (fun a' H' h' => ?_)
      simp -dsimp (maxDischargeDepth := 9) only [go_sem, Nat.reduceBEq, Nat.reduceLT, Nat.reduceAdd, Nat.reduceSub, Nat.reduceMul, Nat.reduceLeDiff, Int.reduceLE, Int.toNat_natCast, Int.natCast_nonneg, List.getElem?_map, List.length_map, Nat.zero_add, eq_self, Bool.not_true, Bool.not_false, hw1]
      refine roundQ_next (k + 1, a') H' ⟨by simp only; omega, ?_⟩ (by simp only; omega) (by simp -dsimp (maxDischargeDepth := 9) only [go_sem, Nat.reduceBEq, Nat.reduceLT, Nat.reduceAdd, Nat.reduceSub, Nat.reduceMul, Nat.reduceLeDiff, Int.reduceLE, Int.toNat_natCast, Int.natCast_nonneg, List.getElem?_map, List.length_map, Nat.zero_add, eq_self, Bool.not_true, Bool.not_false]) (.refl _)
      simpa [listTo, h2] using h'
    · simp -dsimp (maxDischargeDepth := 9) only [go_sem, Nat.reduceBEq, Nat.reduceLT, Nat.reduceAdd, Nat.reduceSub, Nat.reduceMul, Nat.reduceLeDiff, Int.reduceLE, Int.toNat_natCast, Int.natCast_nonneg, List.getElem?_map, List.length_map, Nat.zero_add, eq_self, Bool.not_true, Bool.not_false, hw1]
      refine roundQ_next (k + 1, a) G ⟨by simp only; omega, ?_⟩ (by simp only; omega) (by simp -dsimp (maxDischargeDepth := 9) only [go_sem, Nat.reduceBEq, Nat.reduceLT, Nat.reduceAdd, Nat.reduceSub, Nat.reduceMul, Nat.reduceLeDiff, Int.reduceLE, Int.toNat_natCast, Int.natCast_nonneg, List.getElem?_map, List.length_map, Nat.zero_add, eq_self, Bool.not_true, Bool.not_false]) (.refl _)
      simpa [listTo, h2] using hacc
  · have hk' : k = ws.length * 64 := by simp at h1; omega
    simp -dsimp (maxDischargeDepth := 9) only [go_sem, Nat.reduceBEq, Nat.reduceLT, Nat.reduceAdd, Nat.reduceSub, Nat.reduceMul, Nat.reduceLeDiff, Int.reduceLE, Int.toNat_natCast, Int.natCast_nonneg, List.getElem?_map, List.length_map, Nat.zero_add, eq_self, Bool.not_true, Bool.not_false]
    refine retW_acc hacc ?_
    simpa [listW, ints, hk'] using hK

end Go.Aug

/- A set put into another. -/
namespace Go.Aug
open Go.Proofs
set_option maxRecDepth 100000
set_option linter.unusedSimpArgs false
attribute [local irreducible] hid andK letA onSome onVar onArr arrOnly onInt onBool onFunc onTup idxA ldV ldD addO ofPart appTo fillL slA srcK nilQ retW gif sgd sguard svc sops sdops sagain aopO aLoad aStore aBin aUn aConv aLen aIndexAddr aIndex aSlice aAppend aBuild aBuildSlice aMakeSlice aField aFieldOf aCallOp deepK deepL frzM putE newK newV growV ACall roundQ thenQ inBlockQ sret cnd szs nilC

/-- The bits of one number that are not the other's. -/
def andN (a b : Nat) : Nat := a ^^^ (a &&& b)
theorem andN_bit (a b j : Nat) : (andN a b).testBit j = (a.testBit j && !b.testBit j) := by
  simp only [andN, Nat.testBit_xor, Nat.testBit_and]
  cases a.testBit j <;> cases b.testBit j <;> rfl
theorem andN_le (a b : Nat) : andN a b < 18446744073709551616 ∨ 18446744073709551616 ≤ a := by
  by_cases h : a < 18446744073709551616
  · left
    exact Nat.xor_lt_two_pow (n := 64) h (Nat.lt_of_le_of_lt Nat.and_le_left h)
  · right; omega

theorem andNot_nat (a b : Nat) (ha : a < 18446744073709551616) (hb : b < 18446744073709551616) : bits .andNot .u64 (a : Int) (b : Int) = ((andN a b : Nat) : Int) := by
  have h1 : (BitVec.ofInt 64 (a : Int)).toNat = a := by
    rw [BitVec.ofInt_natCast, BitVec.toNat_ofNat]; exact Nat.mod_eq_of_lt (by omega)
  have h2 : (BitVec.ofInt 64 (b : Int)).toNat = b := by
    rw [BitVec.ofInt_natCast, BitVec.toNat_ofNat]; exact Nat.mod_eq_of_lt (by omega)
  have hx : andN a b < 18446744073709551616 := (andN_le a b).resolve_right (by omega)
  show IntKind.u64.wrap ((BitVec.ofInt 64 (a : Int) &&& ~~~ (BitVec.ofInt 64 (b : Int))).toNat : Int) = _
  have : (BitVec.ofInt 64 (a : Int) &&& ~~~ (BitVec.ofInt 64 (b : Int))).toNat = andN a b := by
    apply Nat.eq_of_testBit_eq
    intro j
    rw [andN_bit, BitVec.testBit_toNat, BitVec.getLsbD_and, BitVec.getLsbD_not, ← BitVec.testBit_toNat, ← BitVec.testBit_toNat, h1, h2]
    by_cases hj : j < 64
    · simp [hj]
    · have : a.testBit j = false := Nat.testBit_lt_two_pow (Nat.lt_of_lt_of_le ha (Nat.pow_le_pow_right (n := 2) (by omega) (by omega : 64 ≤ j)))
      simp [this]
  rw [this, IntKind.wrap_u64]
  exact Int.emod_eq_of_lt (Int.natCast_nonneg _) (Int.ofNat_lt.2 hx)

/-- A word of a set without the registers of a list. -/
def clearS (i : Nat) (w : Nat) (r : Int) : Nat := if r.toNat / 64 = i then andN w (2 ^ (r.toNat % 64)) else w
def clearW (i : Nat) (w : Nat) (but : List Int) : Nat := but.foldl (clearS i) w

theorem clearS_le (i w : Nat) (r : Int) (h : w < 18446744073709551616) : clearS i w r < 18446744073709551616 := by
  unfold clearS; split
  · exact (andN_le w _).resolve_right (by omega)
  · exact h
theorem clearW_le (i : Nat) : ∀ (but : List Int) (w : Nat), w < 18446744073709551616 → clearW i w but < 18446744073709551616
  | [], _, h => h
  | r :: l, w, h => clearW_le i l _ (clearS_le i w r h)
theorem clearW_take (i w : Nat) (but : List Int) (k : Nat) (r : Int) (h : but[k]? = some r) : clearW i w (but.take (k + 1)) = clearS i (clearW i w (but.take k)) r := by
  have : but.take (k + 1) = but.take k ++ [r] := by rw [List.take_add_one, h]; rfl
  rw [this, clearW, List.foldl_append]; rfl

theorem clearW_bit (i j : Nat) (hj : j < 64) : ∀ (but : List Int) (w : Nat), (∀ r ∈ but, 0 ≤ r) → (clearW i w but).testBit j = (w.testBit j && !but.contains ((i * 64 + j : Nat) : Int))
  | [], w, _ => by simp [clearW]
  | r :: l, w, h => by
    have ih := clearW_bit i j hj l (clearS i w r) (fun x hx => h x (by simp [hx]))
    have h0 : 0 ≤ r := h r (by simp)
    show (clearW i (clearS i w r) l).testBit j = _
    rw [ih]
    have key : (clearS i w r).testBit j = (w.testBit j && !decide (((i * 64 + j : Nat) : Int) = r)) := by
      unfold clearS
      split
      · rename_i e
        rw [andN_bit]
        congr 2
        rw [Nat.testBit_two_pow]
        congr 1
        simp only [eq_iff_iff]
        omega
      · rename_i e
        have : ¬ ((i * 64 + j : Nat) : Int) = r := by omega
        rw [decide_eq_false this]; simp
    rw [key]
    simp only [List.contains_cons]
    have e2 : (((i * 64 + j : Nat) : Int) == r) = decide (((i * 64 + j : Nat) : Int) = r) := rfl
    rw [e2]
    cases w.testBit j <;> cases decide (((i * 64 + j : Nat) : Int) = r) <;> simp

end Go.Aug

/- A set put into another: the walk. -/
namespace Go.Aug
open Go.Proofs
set_option maxRecDepth 100000
set_option linter.unusedSimpArgs false
attribute [local irreducible] hid andK letA onSome onVar onArr arrOnly onInt onBool onFunc onTup idxA ldV ldD addO ofPart appTo fillL slA srcK nilQ retW gif sgd sguard svc sops sdops sagain aopO aLoad aStore aBin aUn aConv aLen aIndexAddr aIndex aSlice aAppend aBuild aBuildSlice aMakeSlice aField aFieldOf aCallOp deepK deepL frzM putE newK newV growV ACall roundQ thenQ inBlockQ sret cnd szs nilC

/-- The first words of a set, with those of another put in. -/
def addTo (ws us : List Nat) (but : List Int) : Nat → List Nat
  | 0 => ws
  | k + 1 => (addTo ws us but k).set k ((ws[k]?).getD 0 ||| clearW k ((us[k]?).getD 0) but)
def addW (ws us : List Nat) (but : List Int) : List Nat := addTo ws us but us.length

theorem leH_upd_same {H : Heap} {b : Nat} {o : AObj} (h : H b = some o) : LeH (upd H b o) H := by
  intro k x hx
  unfold upd at hx
  split at hx
  · rename_i e; subst e; cases hx; exact h
  · exact hx

theorem addTo_length (ws us : List Nat) (but : List Int) : ∀ k, (addTo ws us but k).length = ws.length
  | 0 => rfl
  | k + 1 => by simp [addTo, addTo_length ws us but k]
theorem addTo_get (ws us : List Nat) (but : List Int) : ∀ k j, (addTo ws us but k)[j]? = if j < k ∧ j < ws.length then some ((ws[j]?).getD 0 ||| clearW j ((us[j]?).getD 0) but) else ws[j]?
  | 0, j => by simp [addTo]
  | k + 1, j => by
    simp only [addTo, List.getElem?_set, addTo_length, addTo_get ws us but k j]
    by_cases e : k = j
    · subst e
      by_cases h : k < ws.length
      · simp [h]
      · simp [h]
    · rw [if_neg e]
      by_cases h : j < k
      · simp [h, show j < k + 1 by omega]
      · simp [h, show ¬ j < k + 1 by omega]

theorem addTo_ok {ws us : List Nat} (but : List Int) (hw : wordsOk ws) (hu : wordsOk us) : ∀ k, wordsOk (addTo ws us but k)
  | 0 => hw
  | k + 1 => by
    intro w hm
    simp only [addTo] at hm
    rcases List.mem_or_eq_of_mem_set hm with h | rfl
    · exact addTo_ok but hw hu k w h
    · refine Nat.or_lt_two_pow (n := 64) ?_ ?_
      · cases h : ws[k]? with
        | none => simp
        | some x => exact hw x (List.mem_of_getElem? h)
      · refine clearW_le _ _ _ ?_
        cases h : us[k]? with
        | none => simp
        | some x => exact hu x (List.mem_of_getElem? h)

theorem andN_zero {a b : Nat} : andN a b = 0 ↔ b ||| a = b := by
  constructor
  · intro h
    apply Nat.eq_of_testBit_eq
    intro j
    have := andN_bit a b j
    rw [h, Nat.zero_testBit] at this
    rw [Nat.testBit_or]
    cases h1 : a.testBit j <;> cases h2 : b.testBit j <;> simp_all
  · intro h
    apply Nat.eq_of_testBit_eq
    intro j
    rw [andN_bit, Nat.zero_testBit]
    have := congrArg (fun n => Nat.testBit n j) h
    simp only [Nat.testBit_or] at this
    cases h1 : a.testBit j <;> cases h2 : b.testBit j <;> simp_all

theorem addTo_same {ws us : List Nat} {but : List Int} {k w u : Nat} (hx : ws[k]? = some w) (hy : us[k]? = some u) (h : w ||| clearW k u but = w) : addTo ws us but (k + 1) = addTo ws us but k := by
  simp only [addTo, hx, hy, Option.getD_some, h]
  apply List.ext_getElem?
  intro j
  rw [List.getElem?_set]
  by_cases e : k = j
  · subst e
    have hk : k < ws.length := (List.getElem?_eq_some_iff.1 hx).1
    rw [if_pos rfl, if_pos (by rw [addTo_length]; exact hk), addTo_get, if_neg (by omega), hx]
  · rw [if_neg e]

/-- What is found in the other set's block, while the first one is written. -/
theorem add_other {H G : Heap} {bs bt : Nat} {vs vt : Value} {ws us : List Nat} {but : List Int} {k : Nat} (hs : H bs = some (.arr 89 1 vs (wordsD ws))) (ht : H bt = some (.arr 89 1 vt (wordsD us)))
    (hG : G = upd H bs (.arr 89 1 vs (wordsD (addTo ws us but k)))) : ∃ us', G bt = some (.arr 89 1 vt (wordsD us')) ∧ us'.length = us.length ∧ us'[k]? = us[k]? := by
  by_cases e : bt = bs
  · subst e
    rw [ht] at hs
    simp only [Option.some.injEq, AObj.arr.injEq, true_and] at hs
    obtain ⟨rfl, hd⟩ := hs
    have hwu : us = ws := by
      exact (List.map_inj_right (fun a b h => by simp only [D.int.injEq, true_and] at h; omega)).1 hd
    subst hwu
    exact ⟨addTo us us but k, by simp [hG, upd], addTo_length .., by rw [addTo_get, if_neg (by omega)]⟩
  · exact ⟨us, by simp [hG, upd, e, ht], rfl, rfl⟩

theorem add_ok {eb : Nat → Addr} (H : Heap) (bs bt : Nat) (vs vt : Value) (ws us : List Nat) (but : List Int) (hs : H bs = some (.arr 89 1 vs (wordsD ws))) (ht : H bt = some (.arr 89 1 vt (wordsD us)))
    (hw : wordsOk ws) (hu : wordsOk us) (hl : us.length ≤ ws.length) (hn : us.length < 1099511627776) (hb : but.length < 1099511627776) (hr : ∀ r ∈ but, 0 ≤ r ∧ r < 4611686018427387904) (K : A → Heap → Prop)
    (hK : K (.d (.bool (!decide (addW ws us but = ws)))) (upd H bs (.arr 89 1 vs (wordsD (addW ws us but))))) : ACall Tryd.prog (seatV eb) 25 [.own bs vs, .own bt vt, .d (ints but)] H K := by
  have hlw : (wordsD ws).length = ws.length := by simp [wordsD]
  have hlu : (wordsD us).length = us.length := by simp [wordsD]
  refine ACall.by mixed fn25 (by simp) ?_
  conv in s25 => cbv
  refine svc_start ?_
  simp -dsimp (maxDischargeDepth := 9) only [go_sem, Nat.reduceBEq, Nat.reduceLT, Nat.reduceAdd, Nat.reduceSub, Nat.reduceMul, Nat.reduceLeDiff, Int.reduceLE, Int.toNat_natCast, Int.natCast_nonneg, List.getElem?_map, List.length_map, Nat.zero_add, eq_self, Bool.not_true, Bool.not_false, hs, ht, hlu]
  refine svc_loop (fun k : Nat => [(0, .own bs vs), (2, .d (ints but)), (7, .d (.bool (!decide (addTo ws us but k = ws)))), (12, .own bt vt), (13, .d (.int .i64 us.length)), (14, .d (.int .i64 k))])
    (fun k G => k ≤ us.length ∧ G = upd H bs (.arr 89 1 vs (wordsD (addTo ws us but k)))) (fun k => us.length - k) 0 _ ⟨Nat.zero_le _, rfl⟩ (by simp -dsimp (maxDischargeDepth := 9) only [go_sem, Nat.reduceBEq, Nat.reduceLT, Nat.reduceAdd, Nat.reduceSub, Nat.reduceMul, Nat.reduceLeDiff, Int.reduceLE, Int.toNat_natCast, Int.natCast_nonneg, List.getElem?_map, List.length_map, Nat.zero_add, eq_self, Bool.not_true, Bool.not_false, Int.natCast_zero, addTo]) (by simp only [addTo]; exact leH_upd_same hs) ?_
  rintro k G ⟨hk, hG⟩
  obtain ⟨us', hGt, hul, hux⟩ := add_other hs ht hG
  have hGs : G bs = some (.arr 89 1 vs (wordsD (addTo ws us but k))) := by simp [hG, upd]
  have hlk : (wordsD (addTo ws us but k)).length = ws.length := by simp [wordsD, addTo_length]
  have hlt : (wordsD us').length = us.length := by simp [wordsD, hul]
  simp -dsimp (maxDischargeDepth := 9) only [go_sem, Nat.reduceBEq, Nat.reduceLT, Nat.reduceAdd, Nat.reduceSub, Nat.reduceMul, Nat.reduceLeDiff, Int.reduceLE, Int.toNat_natCast, Int.natCast_nonneg, List.getElem?_map, List.length_map, Nat.zero_add, eq_self, Bool.not_true, Bool.not_false]
  refine gif_split (fun h1 => ?_) (fun h1 => ?_)
  · have hk' : k < us.length := by simpa using h1
    obtain ⟨u, hu'⟩ : ∃ u, us[k]? = some u := ⟨us[k], by simp [hk']⟩
    obtain ⟨w, hw'⟩ : ∃ w, ws[k]? = some w := ⟨ws[k]'(by omega), by simp [show k < ws.length by omega]⟩
    have hu1 : u < 18446744073709551616 := hu u (List.mem_of_getElem? hu')
    have hw1 : w < 18446744073709551616 := hw w (List.mem_of_getElem? hw')
    have hd : (wordsD us')[k]? = some (.int .u64 (u : Int)) := by simp [wordsD, hux, hu']
    have hd' : (wordsD (addTo ws us but k))[k]? = some (.int .u64 (w : Int)) := by simp only [wordsD, List.getElem?_map, addTo_get, Nat.lt_irrefl, false_and, if_false, hw', Option.map_some]
    have hww := wrapS (k := k) (by omega)
    simp -dsimp (maxDischargeDepth := 9) only [go_sem, Nat.reduceBEq, Nat.reduceLT, Nat.reduceAdd, Nat.reduceSub, Nat.reduceMul, Nat.reduceLeDiff, Int.reduceLE, Int.toNat_natCast, Int.natCast_nonneg, List.getElem?_map, List.length_map, Nat.zero_add, eq_self, Bool.not_true, Bool.not_false, hGt, hlt, hk', hd]
    refine svc_loop (fun j : Nat => [(0, .own bs vs), (2, .d (ints but)), (7, .d (.bool (!decide (addTo ws us but k = ws)))), (8, .d (.int .i64 k)), (9, .d (.int .u64 (clearW k u (but.take j)))), (12, .own bt vt), (13, .d (.int .i64 us.length)), (14, .d (.int .i64 k)), (19, .d (ints but)), (20, .d (.int .i64 but.length)), (21, .d (.int .i64 j))])
      (fun j G' => j ≤ but.length ∧ G' = G) (fun j => but.length - j) 0 _ ⟨Nat.zero_le _, rfl⟩ (by simp -dsimp (maxDischargeDepth := 9) only [go_sem, Nat.reduceBEq, Nat.reduceLT, Nat.reduceAdd, Nat.reduceSub, Nat.reduceMul, Nat.reduceLeDiff, Int.reduceLE, Int.toNat_natCast, Int.natCast_nonneg, List.getElem?_map, List.length_map, Nat.zero_add, eq_self, Bool.not_true, Bool.not_false, Int.natCast_zero, clearW, List.foldl_nil]) (.refl _) ?_
    rintro j G' ⟨hj, rfl⟩
    simp -dsimp (maxDischargeDepth := 9) only [go_sem, Nat.reduceBEq, Nat.reduceLT, Nat.reduceAdd, Nat.reduceSub, Nat.reduceMul, Nat.reduceLeDiff, Int.reduceLE, Int.toNat_natCast, Int.natCast_nonneg, List.getElem?_map, List.length_map, Nat.zero_add, eq_self, Bool.not_true, Bool.not_false]
    refine gif_split (fun h2 => ?_) (fun h2 => ?_)
    · have hj' : j < but.length := by simpa using h2
      obtain ⟨r, hr'⟩ : ∃ r, but[j]? = some r := ⟨but[j], by simp [hj']⟩
      obtain ⟨h0, hmax⟩ := hr r (List.mem_of_getElem? hr')
      obtain ⟨n, rfl⟩ : ∃ n : Nat, r = n := ⟨r.toNat, by omega⟩
      have hwj := wrapS (k := j) (by omega)
      have hc := clearW_le k (but.take j) u hu1
      have h2n : 2 ^ (n % 64) < 18446744073709551616 := Nat.lt_of_lt_of_le (Nat.pow_lt_pow_right (by omega) (Nat.mod_lt n (by omega))) (by decide)
      have htk := clearW_take k u but j _ hr'
      simp -dsimp (maxDischargeDepth := 9) only [go_sem, Nat.reduceBEq, Nat.reduceLT, Nat.reduceAdd, Nat.reduceSub, Nat.reduceMul, Nat.reduceLeDiff, Int.reduceLE, Int.toNat_natCast, Int.natCast_nonneg, List.getElem?_map, List.length_map, Nat.zero_add, eq_self, Bool.not_true, Bool.not_false, hr', shr6, Int.toNat_natCast]
      refine gif_split (fun h3 => ?_) (fun h3 => ?_)
      · have h3' : n / 64 = k := by simp at h3; omega
        simp -dsimp (maxDischargeDepth := 9) only [go_sem, Nat.reduceBEq, Nat.reduceLT, Nat.reduceAdd, Nat.reduceSub, Nat.reduceMul, Nat.reduceLeDiff, Int.reduceLE, Int.toNat_natCast, Int.natCast_nonneg, List.getElem?_map, List.length_map, Nat.zero_add, eq_self, Bool.not_true, Bool.not_false, shr6, and63 n (by omega), shl1 (n % 64) (by omega), andNot_nat _ _ hc h2n, hwj]
        refine roundQ_next (j + 1) _ ⟨by omega, rfl⟩ (by omega) ?_ (.refl _)
        have hcl : clearW k u (but.take (j + 1)) = andN (clearW k u (but.take j)) (2 ^ (n % 64)) := by rw [htk, clearS, Int.toNat_natCast, if_pos h3']
        simp -dsimp (maxDischargeDepth := 9) only [go_sem, Nat.reduceBEq, Nat.reduceLT, Nat.reduceAdd, Nat.reduceSub, Nat.reduceMul, Nat.reduceLeDiff, Int.reduceLE, Int.toNat_natCast, Int.natCast_nonneg, List.getElem?_map, List.length_map, Nat.zero_add, eq_self, Bool.not_true, Bool.not_false, hcl]
      · have h3' : ¬ n / 64 = k := by simp at h3; omega
        simp -dsimp (maxDischargeDepth := 9) only [go_sem, Nat.reduceBEq, Nat.reduceLT, Nat.reduceAdd, Nat.reduceSub, Nat.reduceMul, Nat.reduceLeDiff, Int.reduceLE, Int.toNat_natCast, Int.natCast_nonneg, List.getElem?_map, List.length_map, Nat.zero_add, eq_self, Bool.not_true, Bool.not_false, hwj]
        refine roundQ_next (j + 1) _ ⟨by omega, rfl⟩ (by omega) ?_ (.refl _)
        have hcl : clearW k u (but.take (j + 1)) = clearW k u (but.take j) := by rw [htk, clearS, Int.toNat_natCast, if_neg h3']
        simp -dsimp (maxDischargeDepth := 9) only [go_sem, Nat.reduceBEq, Nat.reduceLT, Nat.reduceAdd, Nat.reduceSub, Nat.reduceMul, Nat.reduceLeDiff, Int.reduceLE, Int.toNat_natCast, Int.natCast_nonneg, List.getElem?_map, List.length_map, Nat.zero_add, eq_self, Bool.not_true, Bool.not_false, hcl]
    · have hj' : j = but.length := by simp at h2; omega
      have hc := clearW_le k but u hu1
      subst hj'
      have hand := andNot_nat _ _ hc hw1
      have hor := bits_or_u64_nat w (clearW k u but) hw1 hc
      simp -dsimp (maxDischargeDepth := 9) only [go_sem, Nat.reduceBEq, Nat.reduceLT, Nat.reduceAdd, Nat.reduceSub, Nat.reduceMul, Nat.reduceLeDiff, Int.reduceLE, Int.toNat_natCast, Int.natCast_nonneg, List.getElem?_map, List.length_map, Nat.zero_add, eq_self, Bool.not_true, Bool.not_false, List.take_length, hGs, hd', hlk, hk', hand, show k < ws.length by omega]
      refine gif_split (fun h3 => ?_) (fun h3 => ?_)
      · simp -dsimp (maxDischargeDepth := 9) only [go_sem, Nat.reduceBEq, Nat.reduceLT, Nat.reduceAdd, Nat.reduceSub, Nat.reduceMul, Nat.reduceLeDiff, Int.reduceLE, Int.toNat_natCast, Int.natCast_nonneg, List.getElem?_map, List.length_map, Nat.zero_add, eq_self, Bool.not_true, Bool.not_false, hGs, hd', hlk, hor, hww, show k < ws.length by omega]
        refine roundQ_next (k + 1) _ ⟨by omega, ?_⟩ (by omega) ?_ (.refl _)
        · rw [hG, upd_upd]
          simp only [addTo, hw', hu', Option.getD_some, wordsD, List.map_set]
        · have hne : addTo ws us but (k + 1) ≠ ws := by
            intro e
            have := addTo_get ws us but (k + 1) k
            rw [e, hw', if_pos ⟨by omega, by omega⟩, Option.some.injEq, Option.getD_some, hu', Option.getD_some] at this
            have := andN_zero.2 this.symm
            rw [this] at h3
            simp at h3
          simp -dsimp (maxDischargeDepth := 9) only [go_sem, Nat.reduceBEq, Nat.reduceLT, Nat.reduceAdd, Nat.reduceSub, Nat.reduceMul, Nat.reduceLeDiff, Int.reduceLE, Int.toNat_natCast, Int.natCast_nonneg, List.getElem?_map, List.length_map, Nat.zero_add, eq_self, Bool.not_true, Bool.not_false, decide_eq_false hne]
      · simp -dsimp (maxDischargeDepth := 9) only [go_sem, Nat.reduceBEq, Nat.reduceLT, Nat.reduceAdd, Nat.reduceSub, Nat.reduceMul, Nat.reduceLeDiff, Int.reduceLE, Int.toNat_natCast, Int.natCast_nonneg, List.getElem?_map, List.length_map, Nat.zero_add, eq_self, Bool.not_true, Bool.not_false, hww]
        refine roundQ_next (k + 1) _ ⟨by omega, ?_⟩ (by omega) ?_ (.refl _)
        · rw [addTo_same hw' hu' (andN_zero.1 (by simp at h3; omega))]; exact hG
        · rw [addTo_same hw' hu' (andN_zero.1 (by simp at h3; omega))]
          simp -dsimp (maxDischargeDepth := 9) only [go_sem, Nat.reduceBEq, Nat.reduceLT, Nat.reduceAdd, Nat.reduceSub, Nat.reduceMul, Nat.reduceLeDiff, Int.reduceLE, Int.toNat_natCast, Int.natCast_nonneg, List.getElem?_map, List.length_map, Nat.zero_add, eq_self, Bool.not_true, Bool.not_false]
  · have hk' : k = us.length := by simp at h1; omega
    simp -dsimp (maxDischargeDepth := 9) only [go_sem, Nat.reduceBEq, Nat.reduceLT, Nat.reduceAdd, Nat.reduceSub, Nat.reduceMul, Nat.reduceLeDiff, Int.reduceLE, Int.toNat_natCast, Int.natCast_nonneg, List.getElem?_map, List.length_map, Nat.zero_add, eq_self, Bool.not_true, Bool.not_false]
    subst hk' hG
    exact retW_is hK

end Go.Aug

/- The guards at all places: what is gone through, and in which order. -/
namespace Go.Aug
open Go.Proofs
set_option maxRecDepth 100000
set_option linter.unusedSimpArgs false
attribute [local irreducible] hid andK letA onSome onVar onArr arrOnly onInt onBool onFunc onTup idxA ldV ldD addO ofPart appTo fillL slA srcK nilQ retW gif sgd sguard svc sops sdops sagain aopO aLoad aStore aBin aUn aConv aLen aIndexAddr aIndex aSlice aAppend aBuild aBuildSlice aMakeSlice aField aFieldOf aCallOp deepK deepL frzM putE newK newV growV ACall roundQ thenQ inBlockQ sret cnd szs nilC

theorem AccAt.mono {G H H' : Heap} {E : TypeId} {sz : Nat} {l : List D} {a : A} (h : AccAt G E sz l a H) (hle : LeH H H') : AccAt G E sz l a H' := by
  obtain ⟨h1, h2⟩ := h
  refine ⟨h1.trans hle, ?_⟩
  rcases h2 with h2 | ⟨b, v, ha, hb, hv, hH⟩
  · exact .inl h2
  · exact .inr ⟨b, v, ha, hb, hv, hle _ _ hH⟩

/-- A copy that is the call's own. -/
theorem clone_acc {eb : Nat → Addr} (H : Heap) (l : List Int) (K : A → Heap → Prop) (hl : l.length < 1099511627776) (hK : ∀ a H', AccAt H 3 1 (l.map fun n => .int .i64 n) a H' → K a H') :
    ACall Tryd.prog (seatV eb) 23 [.d (ints l)] H K := by
  refine ACall.by mixed fn23 (by simp) ?_
  conv in s23 => cbv
  refine svc_start ?_
  simp -dsimp (maxDischargeDepth := 9) only [go_sem, Nat.reduceBEq, Nat.reduceLT, Nat.reduceAdd, Nat.reduceSub, Nat.reduceMul, Nat.reduceLeDiff, Int.reduceLE, Int.toNat_natCast, Int.natCast_nonneg, List.getElem?_map, List.length_map, Nat.zero_add, eq_self, Bool.not_true, Bool.not_false, ints]
  refine nilQ_intro ?_ (fun h => ?_)
  · simp -dsimp (maxDischargeDepth := 9) only [go_sem, Nat.reduceBEq, Nat.reduceLT, Nat.reduceAdd, Nat.reduceSub, Nat.reduceMul, Nat.reduceLeDiff, Int.reduceLE, Int.toNat_natCast, Int.natCast_nonneg, List.getElem?_map, List.length_map, Nat.zero_add, eq_self, Bool.not_true, Bool.not_false]
    refine newV_intro (fun b v hb hn hm hv => ?_)
    have hacc : AccAt H 3 1 [] (.own b v) (upd H b (.arr 3 1 v [])) := AccAt.own (.up (.refl _) hb) hb hv (by simp [upd])
    generalize A.own b v = a2 at hacc ⊢
    simp -dsimp (maxDischargeDepth := 9) only [go_sem, Nat.reduceBEq, Nat.reduceLT, Nat.reduceAdd, Nat.reduceSub, Nat.reduceMul, Nat.reduceLeDiff, Int.reduceLE, Int.toNat_natCast, Int.natCast_nonneg, List.getElem?_map, List.length_map, Nat.zero_add, eq_self, Bool.not_true, Bool.not_false]
    refine appTo_acc hacc ?_ (fun a' H' h' => ?_)
    · simp; omega
    simp -dsimp (maxDischargeDepth := 9) only [go_sem, Nat.reduceBEq, Nat.reduceLT, Nat.reduceAdd, Nat.reduceSub, Nat.reduceMul, Nat.reduceLeDiff, Int.reduceLE, Int.toNat_natCast, Int.natCast_nonneg, List.getElem?_map, List.length_map, Nat.zero_add, eq_self, Bool.not_true, Bool.not_false]
    exact retW_is (hK _ _ h')
  · simp -dsimp (maxDischargeDepth := 9) only [go_sem, Nat.reduceBEq, Nat.reduceLT, Nat.reduceAdd, Nat.reduceSub, Nat.reduceMul, Nat.reduceLeDiff, Int.reduceLE, Int.toNat_natCast, Int.natCast_nonneg, List.getElem?_map, List.length_map, Nat.zero_add, eq_self, Bool.not_true, Bool.not_false]
    have : l = [] := by simpa using h
    subst this
    exact retW_is (hK _ _ (.nils ..))

theorem equal_ok {eb : Nat → Addr} (H : Heap) (a b : List Int) (ha : a.length < 1099511627776) (K : A → Heap → Prop) (hK : K (.d (.bool (decide (a = b)))) H) :
    ACall Tryd.prog (seatV eb) 33 [.d (ints a), .d (ints b)] H K := by
  refine ACall.by mixed fn33 (by simp) ?_
  conv in s33 => cbv
  refine svc_start ?_
  simp -dsimp (maxDischargeDepth := 9) only [go_sem, Nat.reduceBEq, Nat.reduceLT, Nat.reduceAdd, Nat.reduceSub, Nat.reduceMul, Nat.reduceLeDiff, Int.reduceLE, Int.toNat_natCast, Int.natCast_nonneg, List.getElem?_map, List.length_map, Nat.zero_add, eq_self, Bool.not_true, Bool.not_false]
  refine gif_split (fun h => ?_) (fun h => ?_)
  · simp -dsimp (maxDischargeDepth := 9) only [go_sem, Nat.reduceBEq, Nat.reduceLT, Nat.reduceAdd, Nat.reduceSub, Nat.reduceMul, Nat.reduceLeDiff, Int.reduceLE, Int.toNat_natCast, Int.natCast_nonneg, List.getElem?_map, List.length_map, Nat.zero_add, eq_self, Bool.not_true, Bool.not_false]
    refine retW_is ?_
    have : a ≠ b := by rintro rfl; simp at h
    simpa [this] using hK
  have hl : a.length = b.length := by simp at h; omega
  simp -dsimp (maxDischargeDepth := 9) only [go_sem, Nat.reduceBEq, Nat.reduceLT, Nat.reduceAdd, Nat.reduceSub, Nat.reduceMul, Nat.reduceLeDiff, Int.reduceLE, Int.toNat_natCast, Int.natCast_nonneg, List.getElem?_map, List.length_map, Nat.zero_add, eq_self, Bool.not_true, Bool.not_false]
  refine svc_loop (fun k : Nat => [(0, .d (ints a)), (1, .d (ints b)), (12, .d (.int .i64 a.length)), (13, .d (.int .i64 k))]) (fun k G => G = H ∧ k ≤ a.length ∧ ∀ j, j < k → a[j]? = b[j]?) (fun k => a.length - k) 0 H ⟨rfl, by omega, by omega⟩ (by simp -dsimp (maxDischargeDepth := 9) only [go_sem, Nat.reduceBEq, Nat.reduceLT, Nat.reduceAdd, Nat.reduceSub, Nat.reduceMul, Nat.reduceLeDiff, Int.reduceLE, Int.toNat_natCast, Int.natCast_nonneg, List.getElem?_map, List.length_map, Nat.zero_add, eq_self, Bool.not_true, Bool.not_false, Int.natCast_zero]) (.refl _) ?_
  rintro k G ⟨rfl, hk, hj⟩
  simp -dsimp (maxDischargeDepth := 9) only [go_sem, Nat.reduceBEq, Nat.reduceLT, Nat.reduceAdd, Nat.reduceSub, Nat.reduceMul, Nat.reduceLeDiff, Int.reduceLE, Int.toNat_natCast, Int.natCast_nonneg, List.getElem?_map, List.length_map, Nat.zero_add, eq_self, Bool.not_true, Bool.not_false]
  refine gif_split (fun h1 => ?_) (fun h1 => ?_)
  · have hk' : k < a.length := by simpa using h1
    obtain ⟨x, hx⟩ : ∃ x, a[k]? = some x := ⟨a[k], by simp [hk']⟩
    obtain ⟨y, hy⟩ : ∃ y, b[k]? = some y := ⟨b[k], by simp [hl ▸ hk']⟩
    have hw := wrapS (k := k) (by omega)
    simp -dsimp (maxDischargeDepth := 9) only [go_sem, Nat.reduceBEq, Nat.reduceLT, Nat.reduceAdd, Nat.reduceSub, Nat.reduceMul, Nat.reduceLeDiff, Int.reduceLE, Int.toNat_natCast, Int.natCast_nonneg, List.getElem?_map, List.length_map, Nat.zero_add, eq_self, Bool.not_true, Bool.not_false, hx, hy, hw]
    refine gif_split (fun h2 => ?_) (fun h2 => ?_)
    · simp -dsimp (maxDischargeDepth := 9) only [go_sem, Nat.reduceBEq, Nat.reduceLT, Nat.reduceAdd, Nat.reduceSub, Nat.reduceMul, Nat.reduceLeDiff, Int.reduceLE, Int.toNat_natCast, Int.natCast_nonneg, List.getElem?_map, List.length_map, Nat.zero_add, eq_self, Bool.not_true, Bool.not_false]
      refine retW_is ?_
      have : a ≠ b := by rintro rfl; rw [hx] at hy; cases hy; simp at h2
      simpa [this] using hK
    · simp -dsimp (maxDischargeDepth := 9) only [go_sem, Nat.reduceBEq, Nat.reduceLT, Nat.reduceAdd, Nat.reduceSub, Nat.reduceMul, Nat.reduceLeDiff, Int.reduceLE, Int.toNat_natCast, Int.natCast_nonneg, List.getElem?_map, List.length_map, Nat.zero_add, eq_self, Bool.not_true, Bool.not_false, hw]
      refine roundQ_next (k + 1) G ⟨rfl, by omega, ?_⟩ (by omega) (by simp -dsimp (maxDischargeDepth := 9) only [go_sem, Nat.reduceBEq, Nat.reduceLT, Nat.reduceAdd, Nat.reduceSub, Nat.reduceMul, Nat.reduceLeDiff, Int.reduceLE, Int.toNat_natCast, Int.natCast_nonneg, List.getElem?_map, List.length_map, Nat.zero_add, eq_self, Bool.not_true, Bool.not_false]) (.refl _)
      intro j hjk
      rcases Nat.lt_succ_iff_lt_or_eq.1 hjk with hj' | rfl
      · exact hj j hj'
      · rw [hx, hy]; simpa using h2
  · have hk' : k = a.length := by simp at h1; omega
    simp -dsimp (maxDischargeDepth := 9) only [go_sem, Nat.reduceBEq, Nat.reduceLT, Nat.reduceAdd, Nat.reduceSub, Nat.reduceMul, Nat.reduceLeDiff, Int.reduceLE, Int.toNat_natCast, Int.natCast_nonneg, List.getElem?_map, List.length_map, Nat.zero_add, eq_self, Bool.not_true, Bool.not_false]
    refine retW_is ?_
    have : a = b := by
      apply List.ext_getElem? 
      intro j
      by_cases hjl : j < k
      · exact hj j hjl
      · rw [List.getElem?_eq_none (by omega), List.getElem?_eq_none (by omega)]
    simpa [this] using hK

/-- Where the going through stands: the guards, what has been seen, what is still to be gone through. -/
structure FS where
  g : List (List Int)
  seen : List Bool
  st : List Int

def thenI (i : Ins) (at_ : Int) (k : Nat) (here : List Int) : List Int := if i.op = 16 ∧ k = 0 then here ++ [at_] else if i.op = 17 then here.dropLast else here
def stopI (i : Ins) (here : List Int) : Prop := ((i.op = 13 ∨ i.op = 12 ∨ (testsI i.op = true ∧ i.l = -1)) ∧ here ≠ []) ∨ (i.op = 17 ∧ here = [])

def flowIn (i : Ins) (at_ : Int) (here : List Int) : Nat → List Int → FS → Option FS
  | _, [], s => some s
  | k, t :: ts, s => if s.seen[t.toNat]? = some true then
      (if s.g[t.toNat]? = some (thenI i at_ k here) then flowIn i at_ here (k + 1) ts s else none)
    else flowIn i at_ here (k + 1) ts ⟨s.g.set t.toNat (thenI i at_ k here), s.seen.set t.toNat true, s.st ++ [t]⟩

inductive FRun (body : List Ins) : FS → Option (List (List Int)) → Prop
  | done (s : FS) (h : s.st = []) : FRun body s (some s.g)
  | stop (s : FS) (st : List Int) (a : Int) (i : Ins) (here : List Int) (h : s.st = st ++ [a]) (hi : body[a.toNat]? = some i) (hh : s.g[a.toNat]? = some here) (hs : stopI i here) : FRun body s none
  | clash (s : FS) (st : List Int) (a : Int) (i : Ins) (here : List Int) (h : s.st = st ++ [a]) (hi : body[a.toNat]? = some i) (hh : s.g[a.toNat]? = some here) (hs : ¬ stopI i here)
      (hf : flowIn i a here 0 (goesI a i) { s with st := st } = none) : FRun body s none
  | step (s s' : FS) (st : List Int) (a : Int) (i : Ins) (here : List Int) (r : Option (List (List Int))) (h : s.st = st ++ [a]) (hi : body[a.toNat]? = some i) (hh : s.g[a.toNat]? = some here) (hs : ¬ stopI i here)
      (hf : flowIn i a here 0 (goesI a i) { s with st := st } = some s') (hr : FRun body s' r) : FRun body s r

/-- Guards are places of instructions 'try'. -/
def tries (body : List Ins) (x : List Int) : Prop := ∀ a ∈ x, 0 ≤ a ∧ ∃ i, body[a.toNat]? = some i ∧ i.op = 16
def inRange (n : Nat) (l : List Int) : Prop := ∀ t ∈ l, 0 ≤ t ∧ t.toNat < n

structure FInv (body : List Ins) (s : FS) : Prop where
  lg : s.g.length = body.length
  ls : s.seen.length = body.length
  st : inRange body.length s.st
  len : ∀ x ∈ s.g, x.length + falses s.seen ≤ body.length
  tr : ∀ x ∈ s.g, tries body x
  bound : s.st.length + falses s.seen ≤ body.length

def FS.m (s : FS) : Nat := 2 * falses s.seen + s.st.length

theorem thenI_length (i : Ins) (at_ : Int) (k : Nat) (here : List Int) : (thenI i at_ k here).length ≤ here.length + 1 := by
  unfold thenI; split
  · simp
  · split
    · simp; omega
    · omega

theorem thenI_tries {body : List Ins} {i : Ins} {a : Int} (k : Nat) {here : List Int} (h0 : 0 ≤ a) (hi : body[a.toNat]? = some i) (h : tries body here) : tries body (thenI i a k here) := by
  unfold thenI; split
  · rename_i e
    intro x hx
    simp only [List.mem_append, List.mem_singleton] at hx
    rcases hx with hx | rfl
    · exact h x hx
    · exact ⟨h0, i, hi, e.1⟩
  · split
    · intro x hx; exact h x (List.dropLast_subset _ hx)
    · exact h

theorem FInv.mark {body : List Ins} {s : FS} {x : List Int} {t : Int} (h : FInv body s) (ht0 : 0 ≤ t) (htl : t.toNat < body.length) (hs : s.seen[t.toNat]? = some false) (hx : x.length + falses s.seen ≤ body.length + 1) (htr : tries body x) :
    FInv body ⟨s.g.set t.toNat x, s.seen.set t.toNat true, s.st ++ [t]⟩ := by
  have hf := falses_set hs
  refine ⟨by simp [h.lg], by simp [h.ls], ?_, ?_, ?_, ?_⟩
  · intro y hy
    simp only [List.mem_append, List.mem_singleton] at hy
    rcases hy with hy | rfl
    · exact h.st y hy
    · exact ⟨ht0, htl⟩
  · intro y hy
    simp only at hy ⊢
    rcases List.mem_or_eq_of_mem_set hy with hy | rfl
    · have := h.len y hy; omega
    · omega
  · intro y hy
    rcases List.mem_or_eq_of_mem_set hy with hy | rfl
    · exact h.tr y hy
    · exact htr
  · have := h.bound; simp only [List.length_append, List.length_singleton]; omega

theorem FInv.pop {body : List Ins} {s : FS} {st : List Int} {a : Int} (h : FInv body s) (hs : s.st = st ++ [a]) : FInv body { s with st := st } := by
  refine ⟨h.lg, h.ls, ?_, h.len, h.tr, ?_⟩
  · intro y hy; exact h.st y (by rw [hs]; simp [hy])
  · have := h.bound; rw [hs] at this; simp at this ⊢; omega

theorem FInv.start (body : List Ins) (hn : 0 < body.length) : FInv body ⟨List.replicate body.length [], (List.replicate body.length false).set 0 true, [0]⟩ := by
  have hf := falses_set (l := List.replicate body.length false) (k := 0) (by simp [List.getElem?_replicate, hn])
  rw [falses_rep] at hf
  refine ⟨by simp, by simp, ?_, ?_, ?_, ?_⟩
  · intro y hy; simp at hy; subst hy; exact ⟨Int.le_refl _, hn⟩
  · intro x hx
    simp only [List.mem_replicate] at hx
    obtain ⟨_, rfl⟩ := hx
    simp only [List.length_nil]; omega
  · intro x hx
    simp only [List.mem_replicate] at hx
    obtain ⟨_, rfl⟩ := hx
    intro a ha; simp at ha
  · simp only [List.length_singleton]; omega

end Go.Aug
