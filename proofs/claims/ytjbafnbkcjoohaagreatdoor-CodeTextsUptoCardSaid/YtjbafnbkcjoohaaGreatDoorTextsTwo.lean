/- The contracts of code.Text, of the reference's text and of CodeTexts; conditions stand in each contract. -/
import Derived.Test.YtjbafnbkcjoohaaGreatDoorTextsOne
set_option linter.all false
set_option linter.unusedVariables false
set_option linter.unusedSimpArgs false
set_option linter.unusedSectionVars false

/- The texts of an instruction: the program's. -/
namespace Go.Aug
open Go.Proofs
set_option maxRecDepth 100000
set_option linter.unusedSimpArgs false
attribute [local irreducible] hid andK letA onSome onVar onArr arrOnly onInt onBool onFunc onTup idxA ldV ldD addO ofPart appTo fillL slA srcK nilQ retW gif sgd sguard svc sops sdops sagain aopO aLoad aStore aBin aUn aConv aLen aIndexAddr aIndex aIndexAddrS aIndexS aSlice aAppend aBuild aBuildSlice aMakeSlice aField aFieldOf aCallOp deepK deepL frzM putE newK newV growV ACall roundQ thenQ inBlockQ sret cnd szs nilC onMap onRow aLookup aMapUpdate aMakeMap
variable {eb : Nat → Addr} {mm : Nat → Option Obj}

structure Ins where
  op : Int
  a : Int
  b : Int
  c : Int
  n : Int
  l : Int
  list : List Int
  outs : List Int
  live : List Int
def ints (l : List Int) : D := .slice (l.map (D.int .i64))
def Ins.cs (i : Ins) : List D := [.int .i64 i.op, .int .i64 i.a, .int .i64 i.b, .int .i64 i.c, .int .i64 i.n, .int .i64 i.l, ints i.list, ints i.outs, ints i.live]
def Ins.d (i : Ins) : D := .agg i.cs

def names18 : List (List UInt8) := [[63], [109, 111, 118, 101], [105, 110, 116], [98, 117, 105, 108, 100], [103, 101, 116], [115, 97, 109, 101], [105, 115], [99, 97, 115, 101], [97, 114, 105, 116, 104], [108, 101, 115, 115], [99, 97, 108, 108], [106, 117, 109, 112], [102, 97, 105, 108], [101, 120, 105, 116], [99, 104, 111, 105, 99, 101], [116, 104, 114, 111, 119], [116, 114, 121], [100, 111, 110, 101]]
def nmI (op : Int) : List UInt8 := if 0 < op ∧ op < 18 then names18.getD op.toNat [] else [63]
def numsL (ns : List Int) : List UInt8 := ns.flatMap fun n => 32 :: Lib.itoa n
def listL (l : List Int) : List UInt8 := 32 :: 91 :: (Lib.join (l.map Lib.itoa) [44] ++ [93])
def textI (i : Ins) : List UInt8 := nmI i.op ++ numsL [i.a, i.b, i.c, i.n, i.l] ++ (listL i.list ++ listL i.outs ++ listL i.live)

def InR (n : Int) : Prop := -9223372036854775808 ≤ n ∧ n ≤ 9223372036854775807
structure Ins.ok (i : Ins) : Prop where
  op : InR i.op
  nums : ∀ n ∈ [i.a, i.b, i.c, i.n, i.l], InR n
  lists : ∀ l ∈ [i.list, i.outs, i.live], l.length ≤ 1048576 ∧ ∀ n ∈ l, InR n

theorem leH_upd' {G H : Heap} {b : Nat} {o : AObj} (h : LeH G H) (hb : G b = none) : LeH G (upd H b o) := leH_upd hb h

theorem nd_le : ∀ (k u : Nat), u < 10 ^ (k + 1) → Lib.nDigits u ≤ k + 1
  | 0, u, h => by rw [Lib.nDigits_small (by simpa using h)]; exact Nat.le_refl _
  | k + 1, u, h => by
    by_cases hu : u < 10
    · rw [Lib.nDigits_small hu]; omega
    · rw [Lib.nDigits_big hu]
      have := nd_le k (u / 10) (by rw [Nat.pow_succ] at h; omega)
      omega
theorem itoa_len {n : Int} (h : InR n) : (Lib.itoa n).length ≤ 20 := by
  unfold InR at h
  unfold Lib.itoa
  split
  · simp only [List.length_cons, Lib.decDigits_length]
    have := nd_le 18 n.natAbs (by omega)
    omega
  · rw [Lib.decDigits_length]
    have := nd_le 18 n.toNat (by omega)
    omega
theorem numsL_snoc (l : List Int) (n : Int) : numsL (l ++ [n]) = numsL l ++ 32 :: Lib.itoa n := by simp [numsL]
theorem numsL_len : ∀ (l : List Int), (∀ n ∈ l, InR n) → (numsL l).length ≤ 21 * l.length
  | [], _ => by simp [numsL]
  | n :: l, h => by
    have h1 := itoa_len (h n (.head _))
    have h2 := numsL_len l (fun m hm => h m (.tail _ hm))
    simp only [numsL, List.flatMap_cons, List.length_append, List.length_cons] at h2 ⊢
    omega
theorem take_snoc {α : Type} {l : List α} {k : Nat} {x : α} (h : l[k]? = some x) : l.take (k + 1) = l.take k ++ [x] := by
  rw [List.take_add_one, h]; rfl
theorem nmI_len (op : Int) : (nmI op).length ≤ 7 := by
  unfold nmI
  split
  · rename_i h
    obtain ⟨k, hk⟩ : ∃ k : Nat, op = k := ⟨op.toNat, by omega⟩
    rw [hk, Int.toNat_natCast]
    have : k = 1 ∨ k = 2 ∨ k = 3 ∨ k = 4 ∨ k = 5 ∨ k = 6 ∨ k = 7 ∨ k = 8 ∨ k = 9 ∨ k = 10 ∨ k = 11 ∨ k = 12 ∨ k = 13 ∨ k = 14 ∨ k = 15 ∨ k = 16 ∨ k = 17 := by omega
    rcases this with rfl | rfl | rfl | rfl | rfl | rfl | rfl | rfl | rfl | rfl | rfl | rfl | rfl | rfl | rfl | rfl | rfl <;> decide
  · decide

theorem join_len (l : List Int) (h : ∀ n ∈ l, InR n) : (Lib.join (l.map Lib.itoa) [44]).length ≤ 21 * l.length := by
  cases l with
  | nil => simp [Lib.join_nil]
  | cons n l =>
    rw [List.map_cons, Lib.join_length]
    have : ∀ l : List Int, (∀ n ∈ l, InR n) → Lib.lens (l.map Lib.itoa) ≤ 20 * l.length := by
      intro l
      induction l with
      | nil => intro _; simp [Lib.lens]
      | cons m l ih =>
        intro hl
        have h1 := itoa_len (hl m (.head _))
        have h2 := ih (fun x hx => hl x (.tail _ hx))
        simp only [Lib.lens, List.map_cons, List.sum_cons, List.length_cons] at h2 ⊢
        omega
    have h3 := this (n :: l) h
    simp only [List.map_cons, List.length_cons, List.length_nil, List.length_map] at h3 ⊢
    omega
theorem listL_len (l : List Int) (h : ∀ n ∈ l, InR n) : (listL l).length ≤ 21 * l.length + 3 := by
  have := join_len l h
  simp only [listL, List.length_cons, List.length_append, List.length_nil]; omega
theorem lists_len : ∀ (ls : List (List Int)), (∀ l ∈ ls, l.length ≤ 1048576 ∧ ∀ n ∈ l, InR n) → (ls.flatMap listL).length ≤ 22020099 * ls.length
  | [], _ => by simp
  | l :: ls, h => by
    obtain ⟨h1, h2⟩ := h l (.head _)
    have h3 := listL_len l h2
    have h4 := lists_len ls (fun x hx => h x (.tail _ hx))
    simp only [List.flatMap_cons, List.length_append, List.length_cons]
    omega
theorem flat_snoc (ls : List (List Int)) (l : List Int) : (ls ++ [l]).flatMap listL = ls.flatMap listL ++ listL l := by simp
theorem leH_set {G G2 : Heap} {b : Nat} {o0 o : AObj} (h : LeH (upd G b o0) G2) : LeH (upd G b o) (upd G2 b o) := by
  intro k x hk
  by_cases e : k = b
  · subst e; rw [upd_same] at hk ⊢; exact hk
  · rw [upd_ne _ _ e] at hk ⊢
    exact h k x (by rw [upd_ne _ _ e]; exact hk)
def strI (n : Int) : D := .str ⟨(Lib.itoa n).toArray⟩
/-- The words, so far. -/
def wordsI (l : List Int) (j : Nat) : List D := (l.take j).map strI ++ List.replicate (l.length - j) (.str ⟨⟨[]⟩⟩)
theorem wordsI_0 (l : List Int) : wordsI l 0 = List.replicate l.length (.str ⟨⟨[]⟩⟩) := by simp [wordsI]
theorem wordsI_len (l : List Int) {j : Nat} (h : j ≤ l.length) : (wordsI l j).length = l.length := by simp [wordsI]; omega
theorem wordsI_all (l : List Int) : wordsI l l.length = l.map strI := by simp [wordsI]
theorem wordsI_at (l : List Int) {j : Nat} (h : j < l.length) : (wordsI l j)[j]? = some (.str ⟨⟨[]⟩⟩) := by
  unfold wordsI
  rw [List.getElem?_append_right (by simp; omega)]
  simp only [List.length_map, List.length_take]
  rw [List.getElem?_replicate_of_lt (by omega)]
theorem wordsI_set (l : List Int) {j : Nat} {n : Int} (h : l[j]? = some n) : (wordsI l j).set j (strI n) = wordsI l (j + 1) := by
  have hj : j < l.length := (List.getElem?_eq_some_iff.1 h).1
  unfold wordsI
  rw [List.set_append_right _ _ (by simp; omega), take_snoc h, List.map_append]
  have : l.length - j = (l.length - (j + 1)) + 1 := by omega
  rw [this, List.replicate_succ]
  simp only [List.length_map, List.length_take, Nat.min_eq_left (Nat.le_of_lt hj), Nat.sub_self, List.set_cons_zero, List.map_cons, List.map_nil, List.append_assoc, List.cons_append, List.nil_append]

theorem text_ok (hm : TabM mm) (H : Heap) (i : Ins) (hi : i.ok) (K : A → Heap → Prop) (hK : K (.d (.str ⟨(textI i).toArray⟩)) H) : ACall Tryz.prog (seatZ eb mm) 16 [.d i.d] H K := by
  refine ACall.by mixed fn16 (by simp) ?_
  conv in s16 => cbv
  refine svc_start ?_
  simp -dsimp (maxDischargeDepth := 9) only [go_sem, Nat.reduceBEq, Nat.reduceLT, Nat.reduceAdd, Nat.reduceSub, Nat.reduceMul, Nat.reduceLeDiff, Int.reduceLE, Int.toNat_natCast, Int.natCast_nonneg, List.getElem?_map, List.length_map, Nat.zero_add, eq_self, Bool.not_true, Bool.not_false, Ins.d, Ins.cs]
  refine newK_intro (fun b1 hb1 hn1 hm1 => ?_)
  simp -dsimp (maxDischargeDepth := 9) only [go_sem, Nat.reduceBEq, Nat.reduceLT, Nat.reduceAdd, Nat.reduceSub, Nat.reduceMul, Nat.reduceLeDiff, Int.reduceLE, Int.toNat_natCast, Int.natCast_nonneg, List.getElem?_map, List.length_map, Nat.zero_add, eq_self, Bool.not_true, Bool.not_false]
  refine newK_intro (fun b3 hb3 hn3 hm3 => ?_)
  simp -dsimp (maxDischargeDepth := 9) only [go_sem, Nat.reduceBEq, Nat.reduceLT, Nat.reduceAdd, Nat.reduceSub, Nat.reduceMul, Nat.reduceLeDiff, Int.reduceLE, Int.toNat_natCast, Int.natCast_nonneg, List.getElem?_map, List.length_map, Nat.zero_add, eq_self, Bool.not_true, Bool.not_false, hn3, hm3, Int.toNat_zero, Nat.zero_mul, Nat.mul_one]
  have hb3' : H b3 = none := upd_none hb3
  have h13 : b1 ≠ b3 := (upd_none_ne hb3).symm
  refine (fun (rest : ∀ (t : List UInt8) (G : Heap), t = nmI i.op → G b1 = some (.var (i.cs.map .d)) → LeH H G → (?T : List UInt8 → Heap → Prop) t G) => ?main) ?rest
  case main =>
    generalize hG : upd (upd (upd H b1 _) b3 _) b3 _ = G
    have g1 : G b1 = some (.var (i.cs.map .d)) := by rw [← hG, upd_ne _ _ h13, upd_ne _ _ h13, upd_same]; rfl
    have g3 := congrFun hG b3
    rw [upd_same] at g3
    have g3 := g3.symm
    have gl : LeH H G := by rw [← hG]; exact leH_upd' (leH_upd hb3' (leH_upd hb1 (.refl H))) hb3'
    refine gif_split (fun h => ?_) (fun h => ?_)
    · have h1 : 0 < i.op := of_decide_eq_true h
      simp -dsimp (maxDischargeDepth := 9) only [go_sem, Nat.reduceBEq, Nat.reduceLT, Nat.reduceAdd, Nat.reduceSub, Nat.reduceMul, Nat.reduceLeDiff, Int.reduceLE, Int.toNat_natCast, Int.natCast_nonneg, List.getElem?_map, List.length_map, Nat.zero_add, eq_self, Bool.not_true, Bool.not_false, h, g1, Ins.cs]
      refine gif_split (fun h' => ?_) (fun h' => ?_)
      · have h2 : i.op < 18 := of_decide_eq_true h'
        simp -dsimp (maxDischargeDepth := 9) only [go_sem, Nat.reduceBEq, Nat.reduceLT, Nat.reduceAdd, Nat.reduceSub, Nat.reduceMul, Nat.reduceLeDiff, Int.reduceLE, Int.toNat_natCast, Int.natCast_nonneg, List.getElem?_map, List.length_map, Nat.zero_add, eq_self, Bool.not_true, Bool.not_false, h', g1, g3, Ins.cs]
        refine andK_split (by omega) ?_
        simp -dsimp (maxDischargeDepth := 9) only [go_sem, Nat.reduceBEq, Nat.reduceLT, Nat.reduceAdd, Nat.reduceSub, Nat.reduceMul, Nat.reduceLeDiff, Int.reduceLE, Int.toNat_natCast, Int.natCast_nonneg, List.getElem?_map, List.length_map, Nat.zero_add, eq_self, Bool.not_true, Bool.not_false, g3, Nat.mul_one]
        refine onSome_of (x := .d (.str ⟨(nmI i.op).toArray⟩)) ?_ ?_
        · obtain ⟨k, hk⟩ : ∃ k : Nat, i.op = k := ⟨i.op.toNat, by omega⟩
          have hn : nmI i.op = names18.getD k [] := by unfold nmI; rw [if_pos ⟨h1, h2⟩, hk]; rfl
          rw [hn, hk, Int.toNat_natCast]
          have : k = 1 ∨ k = 2 ∨ k = 3 ∨ k = 4 ∨ k = 5 ∨ k = 6 ∨ k = 7 ∨ k = 8 ∨ k = 9 ∨ k = 10 ∨ k = 11 ∨ k = 12 ∨ k = 13 ∨ k = 14 ∨ k = 15 ∨ k = 16 ∨ k = 17 := by omega
          rcases this with rfl | rfl | rfl | rfl | rfl | rfl | rfl | rfl | rfl | rfl | rfl | rfl | rfl | rfl | rfl | rfl | rfl <;> rfl
        · simp -dsimp (maxDischargeDepth := 9) only [go_sem, Nat.reduceBEq, Nat.reduceLT, Nat.reduceAdd, Nat.reduceSub, Nat.reduceMul, Nat.reduceLeDiff, Int.reduceLE, Int.toNat_natCast, Int.natCast_nonneg, List.getElem?_map, List.length_map, Nat.zero_add, eq_self, Bool.not_true, Bool.not_false, g1, Ins.cs]
          generalize ht : nmI i.op = t0 at rest ⊢
          exact rest t0 G rfl g1 gl
      · have h2 : ¬ i.op < 18 := of_decide_eq_false h'
        simp -dsimp (maxDischargeDepth := 9) only [go_sem, Nat.reduceBEq, Nat.reduceLT, Nat.reduceAdd, Nat.reduceSub, Nat.reduceMul, Nat.reduceLeDiff, Int.reduceLE, Int.toNat_natCast, Int.natCast_nonneg, List.getElem?_map, List.length_map, Nat.zero_add, eq_self, Bool.not_true, Bool.not_false, h', g1, Ins.cs]
        have hn : nmI i.op = [63] := by unfold nmI; rw [if_neg (fun x => h2 x.2)]
        generalize ([63] : List UInt8) = t0 at hn ⊢; exact rest t0 G hn.symm g1 gl
    · have h1 : ¬ 0 < i.op := of_decide_eq_false h
      simp -dsimp (maxDischargeDepth := 9) only [go_sem, Nat.reduceBEq, Nat.reduceLT, Nat.reduceAdd, Nat.reduceSub, Nat.reduceMul, Nat.reduceLeDiff, Int.reduceLE, Int.toNat_natCast, Int.natCast_nonneg, List.getElem?_map, List.length_map, Nat.zero_add, eq_self, Bool.not_true, Bool.not_false, h, g1, Ins.cs]
      have hn : nmI i.op = [63] := by unfold nmI; rw [if_neg (fun x => h1 x.1)]
      generalize ([63] : List UInt8) = t0 at hn ⊢; exact rest t0 G hn.symm g1 gl
  case rest =>
    rintro t G ht g1 gl
    have htl : t.length ≤ 7 := by rw [ht]; exact nmI_len _
    obtain ⟨ns, hns⟩ : ∃ ns, ns = [i.a, i.b, i.c, i.n, i.l] := ⟨_, rfl⟩
    have hnr : ∀ n ∈ ns, InR n := by rw [hns]; exact hi.nums
    have hnl : ns.length = 5 := by rw [hns]; rfl
    refine svc_loop (X := Nat) (fun k => [(1, .ref b1 0), (4, .d (.str ⟨(t ++ numsL (ns.take k)).toArray⟩)), (37, .d (.agg (ns.map (D.int .i64)))), (38, .d (.int .i64 k))])
      (fun k G' => k ≤ 5 ∧ G' = G) (fun k => 5 - k) 0 G ⟨by omega, rfl⟩ (by rw [hns]; simp -dsimp (maxDischargeDepth := 9) only [go_sem, Nat.reduceBEq, Nat.reduceLT, Nat.reduceAdd, Nat.reduceSub, Nat.reduceMul, Nat.reduceLeDiff, Int.reduceLE, Int.toNat_natCast, Int.natCast_nonneg, List.getElem?_map, List.length_map, Nat.zero_add, eq_self, Bool.not_true, Bool.not_false]; simp [numsL]) (.refl G) ?_
    rintro k G' ⟨hk, rfl⟩
    have hlen : (numsL (ns.take k)).length ≤ 105 := by
      have := numsL_len (ns.take k) (fun n hn => hnr n (List.mem_of_mem_take hn))
      simp only [List.length_take] at this; omega
    simp -dsimp (maxDischargeDepth := 9) only [go_sem, Nat.reduceBEq, Nat.reduceLT, Nat.reduceAdd, Nat.reduceSub, Nat.reduceMul, Nat.reduceLeDiff, Int.reduceLE, Int.toNat_natCast, Int.natCast_nonneg, List.getElem?_map, List.length_map, Nat.zero_add, eq_self, Bool.not_true, Bool.not_false]
    refine gif_split (fun h => ?_) (fun h => ?_)
    · have hk5 : k < 5 := by have := of_decide_eq_true h; omega
      obtain ⟨n, hn⟩ : ∃ n, ns[k]? = some n := ⟨ns[k], List.getElem?_eq_getElem (by omega)⟩
      have hnn := hnr n (List.mem_of_getElem? hn)
      have hw : IntKind.i64.wrap ((k : Int) + 1) = ((k + 1 : Nat) : Int) := by rw [wrap_in (by omega) (by omega)]; omega
      have hil := itoa_len hnn
      simp -dsimp (maxDischargeDepth := 9) only [go_sem, Nat.reduceBEq, Nat.reduceLT, Nat.reduceAdd, Nat.reduceSub, Nat.reduceMul, Nat.reduceLeDiff, Int.reduceLE, Int.toNat_natCast, Int.natCast_nonneg, List.getElem?_map, List.length_map, Nat.zero_add, eq_self, Bool.not_true, Bool.not_false, h]
      refine andK_split (by omega) ?_
      simp -dsimp (maxDischargeDepth := 9) only [go_sem, Nat.reduceBEq, Nat.reduceLT, Nat.reduceAdd, Nat.reduceSub, Nat.reduceMul, Nat.reduceLeDiff, Int.reduceLE, Int.toNat_natCast, Int.natCast_nonneg, List.getElem?_map, List.length_map, Nat.zero_add, eq_self, Bool.not_true, Bool.not_false, Nat.mul_one, hn]
      refine itoa_ok hm n hnn.1 hnn.2 ?_
      simp -dsimp (maxDischargeDepth := 9) only [go_sem, Nat.reduceBEq, Nat.reduceLT, Nat.reduceAdd, Nat.reduceSub, Nat.reduceMul, Nat.reduceLeDiff, Int.reduceLE, Int.toNat_natCast, Int.natCast_nonneg, List.getElem?_map, List.length_map, Nat.zero_add, eq_self, Bool.not_true, Bool.not_false]
      refine andK_split (by simp only [List.size_toArray, List.length_cons, List.length_nil]; omega) ?_
      simp -dsimp (maxDischargeDepth := 9) only [go_sem, Nat.reduceBEq, Nat.reduceLT, Nat.reduceAdd, Nat.reduceSub, Nat.reduceMul, Nat.reduceLeDiff, Int.reduceLE, Int.toNat_natCast, Int.natCast_nonneg, List.getElem?_map, List.length_map, Nat.zero_add, eq_self, Bool.not_true, Bool.not_false, app_mk]
      refine andK_split (by simp only [List.size_toArray, List.length_cons, List.length_append]; omega) ?_
      simp -dsimp (maxDischargeDepth := 9) only [go_sem, Nat.reduceBEq, Nat.reduceLT, Nat.reduceAdd, Nat.reduceSub, Nat.reduceMul, Nat.reduceLeDiff, Int.reduceLE, Int.toNat_natCast, Int.natCast_nonneg, List.getElem?_map, List.length_map, Nat.zero_add, eq_self, Bool.not_true, Bool.not_false, app_mk, hw]
      exact roundQ_next (k + 1) _ ⟨by omega, rfl⟩ (by omega) (by simp -dsimp (maxDischargeDepth := 9) only [go_sem, Nat.reduceBEq, Nat.reduceLT, Nat.reduceAdd, Nat.reduceSub, Nat.reduceMul, Nat.reduceLeDiff, Int.reduceLE, Int.toNat_natCast, Int.natCast_nonneg, List.getElem?_map, List.length_map, Nat.zero_add, eq_self, Bool.not_true, Bool.not_false]; simp [take_snoc hn, numsL_snoc]) (.refl _)
    · have hk5 : k = 5 := by have := of_decide_eq_false h; omega
      subst hk5
      have htk : ns.take 5 = ns := List.take_of_length_le (by omega)
      rw [htk] at hlen
      simp -dsimp (maxDischargeDepth := 9) only [go_sem, Nat.reduceBEq, Nat.reduceLT, Nat.reduceAdd, Nat.reduceSub, Nat.reduceMul, Nat.reduceLeDiff, Int.reduceLE, Int.toNat_natCast, Int.natCast_nonneg, List.getElem?_map, List.length_map, Nat.zero_add, eq_self, Bool.not_true, Bool.not_false, h, htk, g1, Ins.cs, ints]
      obtain ⟨ls, hls⟩ : ∃ ls, ls = [i.list, i.outs, i.live] := ⟨_, rfl⟩
      have hlr : ∀ l ∈ ls, l.length ≤ 1048576 ∧ ∀ n ∈ l, InR n := by rw [hls]; exact hi.lists
      have hll : ls.length = 3 := by rw [hls]; rfl
      have htext : textI i = (t ++ numsL ns) ++ ls.flatMap listL := by rw [ht, hns, hls]; simp [textI]
      have ht2 : (t ++ numsL ns).length ≤ 120 := by rw [List.length_append]; omega
      generalize t ++ numsL ns = t2 at htext ht2 ⊢
      refine svc_loop (X := Nat) (fun k => [(4, .d (.str ⟨(t2 ++ (ls.take k).flatMap listL).toArray⟩)), (53, .d (.agg (ls.map ints))), (54, .d (.int .i64 k))])
        (fun k G' => k ≤ 3 ∧ LeH H G') (fun k => 3 - k) 0 G' ⟨by omega, gl⟩ (by rw [hls]; simp -dsimp (maxDischargeDepth := 9) only [go_sem, Nat.reduceBEq, Nat.reduceLT, Nat.reduceAdd, Nat.reduceSub, Nat.reduceMul, Nat.reduceLeDiff, Int.reduceLE, Int.toNat_natCast, Int.natCast_nonneg, List.getElem?_map, List.length_map, Nat.zero_add, eq_self, Bool.not_true, Bool.not_false]; simp [ints]) (.refl G') ?_
      rintro k G2 ⟨hk, gl2⟩
      have hlen2 : ((ls.take k).flatMap listL).length ≤ 70000000 := by
        have := lists_len (ls.take k) (fun l hl => hlr l (List.mem_of_mem_take hl))
        simp only [List.length_take] at this; omega
      simp -dsimp (maxDischargeDepth := 9) only [go_sem, Nat.reduceBEq, Nat.reduceLT, Nat.reduceAdd, Nat.reduceSub, Nat.reduceMul, Nat.reduceLeDiff, Int.reduceLE, Int.toNat_natCast, Int.natCast_nonneg, List.getElem?_map, List.length_map, Nat.zero_add, eq_self, Bool.not_true, Bool.not_false]
      refine gif_split (fun h => ?_) (fun h => ?_)
      · have hk3 : k < 3 := by have := of_decide_eq_true h; omega
        obtain ⟨l, hl⟩ : ∃ l, ls[k]? = some l := ⟨ls[k], List.getElem?_eq_getElem (by omega)⟩
        obtain ⟨hl1, hl2⟩ := hlr l (List.mem_of_getElem? hl)
        have hw : IntKind.i64.wrap ((k : Int) + 1) = ((k + 1 : Nat) : Int) := by rw [wrap_in (by omega) (by omega)]; omega
        simp -dsimp (maxDischargeDepth := 9) only [go_sem, Nat.reduceBEq, Nat.reduceLT, Nat.reduceAdd, Nat.reduceSub, Nat.reduceMul, Nat.reduceLeDiff, Int.reduceLE, Int.toNat_natCast, Int.natCast_nonneg, List.getElem?_map, List.length_map, Nat.zero_add, eq_self, Bool.not_true, Bool.not_false, h]
        refine andK_split (by omega) ?_
        simp -dsimp (maxDischargeDepth := 9) only [go_sem, Nat.reduceBEq, Nat.reduceLT, Nat.reduceAdd, Nat.reduceSub, Nat.reduceMul, Nat.reduceLeDiff, Int.reduceLE, Int.toNat_natCast, Int.natCast_nonneg, List.getElem?_map, List.length_map, Nat.zero_add, eq_self, Bool.not_true, Bool.not_false, Nat.mul_one, hl, ints]
        refine andK_split (by omega) ?_
        simp -dsimp (maxDischargeDepth := 9) only [go_sem, Nat.reduceBEq, Nat.reduceLT, Nat.reduceAdd, Nat.reduceSub, Nat.reduceMul, Nat.reduceLeDiff, Int.reduceLE, Int.toNat_natCast, Int.natCast_nonneg, List.getElem?_map, List.length_map, Nat.zero_add, eq_self, Bool.not_true, Bool.not_false]
        refine newV_intro (fun b v hb hn hm2 hv => ?_)
        simp -dsimp (maxDischargeDepth := 9) only [go_sem, Nat.reduceBEq, Nat.reduceLT, Nat.reduceAdd, Nat.reduceSub, Nat.reduceMul, Nat.reduceLeDiff, Int.reduceLE, Int.toNat_natCast, Int.natCast_nonneg, List.getElem?_map, List.length_map, Nat.zero_add, eq_self, Bool.not_true, Bool.not_false]
        have hHb : H b = none := le_none gl2 hb
        have hl64 : (l.length : Int) ≤ 1048576 := by omega
        refine svc_loop (X := Nat) (fun j => [(4, .d (.str ⟨(t2 ++ (ls.take k).flatMap listL).toArray⟩)), (9, .own b v), (53, .d (.agg (ls.map ints))), (54, .d (.int .i64 k)), (60, .d (ints l)), (61, .d (.int .i64 l.length)), (62, .d (.int .i64 j))])
          (fun j G3 => j ≤ l.length ∧ LeH (upd G2 b (.arr 9 1 v (wordsI l j))) G3) (fun j => l.length - j) 0 _ ⟨by omega, .refl _⟩ (by simp -dsimp (maxDischargeDepth := 9) only [go_sem, Nat.reduceBEq, Nat.reduceLT, Nat.reduceAdd, Nat.reduceSub, Nat.reduceMul, Nat.reduceLeDiff, Int.reduceLE, Int.toNat_natCast, Int.natCast_nonneg, List.getElem?_map, List.length_map, Nat.zero_add, eq_self, Bool.not_true, Bool.not_false]; simp [ints]) (by rw [wordsI_0]; exact .refl _) ?_
        rintro j G3 ⟨hj, gl3⟩
        have g3b : G3 b = some (.arr 9 1 v (wordsI l j)) := gl3 b _ (upd_same ..)
        simp -dsimp (maxDischargeDepth := 9) only [go_sem, Nat.reduceBEq, Nat.reduceLT, Nat.reduceAdd, Nat.reduceSub, Nat.reduceMul, Nat.reduceLeDiff, Int.reduceLE, Int.toNat_natCast, Int.natCast_nonneg, List.getElem?_map, List.length_map, Nat.zero_add, eq_self, Bool.not_true, Bool.not_false]
        refine gif_split (fun h2 => ?_) (fun h2 => ?_)
        · have hjl : j < l.length := by have := of_decide_eq_true h2; omega
          obtain ⟨n, hn⟩ : ∃ n, l[j]? = some n := ⟨l[j], List.getElem?_eq_getElem hjl⟩
          have hnn := hl2 n (List.mem_of_getElem? hn)
          have hw2 : IntKind.i64.wrap ((j : Int) + 1) = ((j + 1 : Nat) : Int) := by rw [wrap_in (by omega) (by omega)]; omega
          simp -dsimp (maxDischargeDepth := 9) only [go_sem, Nat.reduceBEq, Nat.reduceLT, Nat.reduceAdd, Nat.reduceSub, Nat.reduceMul, Nat.reduceLeDiff, Int.reduceLE, Int.toNat_natCast, Int.natCast_nonneg, List.getElem?_map, List.length_map, Nat.zero_add, eq_self, Bool.not_true, Bool.not_false, h2, ints, hn]
          refine itoa_ok hm n hnn.1 hnn.2 ?_
          simp -dsimp (maxDischargeDepth := 9) only [go_sem, Nat.reduceBEq, Nat.reduceLT, Nat.reduceAdd, Nat.reduceSub, Nat.reduceMul, Nat.reduceLeDiff, Int.reduceLE, Int.toNat_natCast, Int.natCast_nonneg, List.getElem?_map, List.length_map, Nat.zero_add, eq_self, Bool.not_true, Bool.not_false, g3b, wordsI_len l hj]
          refine andK_split (by omega) ?_
          simp -dsimp (maxDischargeDepth := 9) only [go_sem, Nat.reduceBEq, Nat.reduceLT, Nat.reduceAdd, Nat.reduceSub, Nat.reduceMul, Nat.reduceLeDiff, Int.reduceLE, Int.toNat_natCast, Int.natCast_nonneg, List.getElem?_map, List.length_map, Nat.zero_add, eq_self, Bool.not_true, Bool.not_false, g3b, wordsI_at l hjl, hw2]
          have hset : (wordsI l j).set j (.str ⟨(Lib.itoa n).toArray⟩) = wordsI l (j + 1) := wordsI_set l hn
          exact roundQ_next (j + 1) _ ⟨by omega, leH_set gl3⟩ (by omega) (by simp -dsimp (maxDischargeDepth := 9) only [go_sem, Nat.reduceBEq, Nat.reduceLT, Nat.reduceAdd, Nat.reduceSub, Nat.reduceMul, Nat.reduceLeDiff, Int.reduceLE, Int.toNat_natCast, Int.natCast_nonneg, List.getElem?_map, List.length_map, Nat.zero_add, eq_self, Bool.not_true, Bool.not_false]; simp [ints]) (by rw [← hset]; exact .refl _)
        · have hjl : j = l.length := by have := of_decide_eq_false h2; omega
          subst hjl
          rw [wordsI_all] at g3b gl3
          simp -dsimp (maxDischargeDepth := 9) only [go_sem, Nat.reduceBEq, Nat.reduceLT, Nat.reduceAdd, Nat.reduceSub, Nat.reduceMul, Nat.reduceLeDiff, Int.reduceLE, Int.toNat_natCast, Int.natCast_nonneg, List.getElem?_map, List.length_map, Nat.zero_add, eq_self, Bool.not_true, Bool.not_false, h2]
          refine ACall.frz [true, false] ?_
          simp -dsimp (maxDischargeDepth := 9) only [go_sem, Nat.reduceBEq, Nat.reduceLT, Nat.reduceAdd, Nat.reduceSub, Nat.reduceMul, Nat.reduceLeDiff, Int.reduceLE, Int.toNat_natCast, Int.natCast_nonneg, List.getElem?_map, List.length_map, Nat.zero_add, eq_self, Bool.not_true, Bool.not_false, g3b]
          have hws : l.map strI = (l.map fun n => (⟨(Lib.itoa n).toArray⟩ : ByteArray)).map .str := by simp [strI]
          have hmap : (l.map fun n => (⟨(Lib.itoa n).toArray⟩ : ByteArray)).map (fun x => x.data.toList) = l.map Lib.itoa := by simp
          have hjn := join_len l hl2
          rw [hws]
          refine join_ok _ _ (by simp only [List.length_map]; omega) (by rw [hmap]; show (Lib.join (l.map Lib.itoa) [44]).length ≤ _; omega) ?_
          rw [hmap]
          simp -dsimp (maxDischargeDepth := 9) only [go_sem, Nat.reduceBEq, Nat.reduceLT, Nat.reduceAdd, Nat.reduceSub, Nat.reduceMul, Nat.reduceLeDiff, Int.reduceLE, Int.toNat_natCast, Int.natCast_nonneg, List.getElem?_map, List.length_map, Nat.zero_add, eq_self, Bool.not_true, Bool.not_false]
          refine andK_split (by simp only [List.size_toArray, List.length_cons, List.length_nil]; omega) ?_
          simp -dsimp (maxDischargeDepth := 9) only [go_sem, Nat.reduceBEq, Nat.reduceLT, Nat.reduceAdd, Nat.reduceSub, Nat.reduceMul, Nat.reduceLeDiff, Int.reduceLE, Int.toNat_natCast, Int.natCast_nonneg, List.getElem?_map, List.length_map, Nat.zero_add, eq_self, Bool.not_true, Bool.not_false, app_mk]
          refine andK_split (by simp only [List.size_toArray, List.length_cons, List.length_nil, List.length_append]; omega) ?_
          simp -dsimp (maxDischargeDepth := 9) only [go_sem, Nat.reduceBEq, Nat.reduceLT, Nat.reduceAdd, Nat.reduceSub, Nat.reduceMul, Nat.reduceLeDiff, Int.reduceLE, Int.toNat_natCast, Int.natCast_nonneg, List.getElem?_map, List.length_map, Nat.zero_add, eq_self, Bool.not_true, Bool.not_false, app_mk]
          refine andK_split (by simp only [List.size_toArray, List.length_cons, List.length_nil, List.length_append]; omega) ?_
          simp -dsimp (maxDischargeDepth := 9) only [go_sem, Nat.reduceBEq, Nat.reduceLT, Nat.reduceAdd, Nat.reduceSub, Nat.reduceMul, Nat.reduceLeDiff, Int.reduceLE, Int.toNat_natCast, Int.natCast_nonneg, List.getElem?_map, List.length_map, Nat.zero_add, eq_self, Bool.not_true, Bool.not_false, app_mk, hw]
          refine roundQ_next (k + 1) _ ⟨by omega, ?_⟩ (by omega) (by simp -dsimp (maxDischargeDepth := 9) only [go_sem, Nat.reduceBEq, Nat.reduceLT, Nat.reduceAdd, Nat.reduceSub, Nat.reduceMul, Nat.reduceLeDiff, Int.reduceLE, Int.toNat_natCast, Int.natCast_nonneg, List.getElem?_map, List.length_map, Nat.zero_add, eq_self, Bool.not_true, Bool.not_false]; simp [take_snoc hl, flat_snoc, listL]) (.refl _)
          exact leH_upd hHb (fun x o hx => gl3 x o (leH_upd hHb gl2 x o hx))
      · have hk3 : k = 3 := by have := of_decide_eq_false h; omega
        subst hk3
        have htk3 : ls.take 3 = ls := List.take_of_length_le (by omega)
        simp -dsimp (maxDischargeDepth := 9) only [go_sem, Nat.reduceBEq, Nat.reduceLT, Nat.reduceAdd, Nat.reduceSub, Nat.reduceMul, Nat.reduceLeDiff, Int.reduceLE, Int.toNat_natCast, Int.natCast_nonneg, List.getElem?_map, List.length_map, Nat.zero_add, eq_self, Bool.not_true, Bool.not_false, h, htk3]
        refine retW_drop (G := H) gl2 (retW_is ?_)
        rw [htext] at hK
        exact hK
end Go.Aug

/- The texts of an instruction: the reference's; the law. -/
namespace Go.Aug
open Go.Proofs
set_option maxRecDepth 100000
set_option linter.unusedSimpArgs false
attribute [local irreducible] hid andK letA onSome onVar onArr arrOnly onInt onBool onFunc onTup idxA ldV ldD addO ofPart appTo fillL slA srcK nilQ retW gif sgd sguard svc sops sdops sagain aopO aLoad aStore aBin aUn aConv aLen aIndexAddr aIndex aIndexAddrS aIndexS aSlice aAppend aBuild aBuildSlice aMakeSlice aField aFieldOf aCallOp deepK deepL frzM putE newK newV growV ACall roundQ thenQ inBlockQ sret cnd szs nilC onMap onRow aLookup aMapUpdate aMakeMap
variable {eb : Nat → Addr} {mm : Nat → Option Obj}

def joinI (l : List Int) : List UInt8 := Lib.join (l.map Lib.itoa) [44]
theorem joinI_nil : joinI [] = [] := Lib.join_nil _
theorem joinI_one (n : Int) : joinI [n] = Lib.itoa n := by unfold joinI; exact Lib.join_one _ _
theorem joinI_snoc {l : List Int} (h : l ≠ []) (n : Int) : joinI (l ++ [n]) = joinI l ++ 44 :: Lib.itoa n := by
  unfold joinI
  cases l with
  | nil => exact (h rfl).elim
  | cons x r =>
    simp only [List.cons_append, List.map_cons, Lib.join_cons, List.map_append, List.map_nil, Lib.joinTail, List.flatten_append, List.flatten_cons, List.flatten_nil, List.append_nil, List.append_assoc, List.nil_append]

theorem rtext_ok (H : Heap) (i : Ins) (hi : i.ok) (K : A → Heap → Prop) (hK : K (.d (.str ⟨(textI i).toArray⟩)) H) : ACall Tryz.prog (seatZ eb mm) 17 [.d i.d] H K := by
  refine ACall.by mixed fn17 (by simp) ?_
  conv in s17 => cbv
  refine svc_start ?_
  simp -dsimp (maxDischargeDepth := 9) only [go_sem, Nat.reduceBEq, Nat.reduceLT, Nat.reduceAdd, Nat.reduceSub, Nat.reduceMul, Nat.reduceLeDiff, Int.reduceLE, Int.toNat_natCast, Int.natCast_nonneg, List.getElem?_map, List.length_map, Nat.zero_add, eq_self, Bool.not_true, Bool.not_false, Ins.d, Ins.cs]
  refine newK_intro (fun b1 hb1 hn1 hm1 => ?_)
  simp -dsimp (maxDischargeDepth := 9) only [go_sem, Nat.reduceBEq, Nat.reduceLT, Nat.reduceAdd, Nat.reduceSub, Nat.reduceMul, Nat.reduceLeDiff, Int.reduceLE, Int.toNat_natCast, Int.natCast_nonneg, List.getElem?_map, List.length_map, Nat.zero_add, eq_self, Bool.not_true, Bool.not_false]
  refine newV_intro (fun b3 v3 hb3 hn3 hm3 hv3 => ?_)
  simp -dsimp (maxDischargeDepth := 9) only [go_sem, Nat.reduceBEq, Nat.reduceLT, Nat.reduceAdd, Nat.reduceSub, Nat.reduceMul, Nat.reduceLeDiff, Int.reduceLE, Int.toNat_natCast, Int.natCast_nonneg, List.getElem?_map, List.length_map, Nat.zero_add, eq_self, Bool.not_true, Bool.not_false, hn3, hm3, Int.toNat_zero, Nat.zero_mul, Nat.mul_one]
  have hb3' : H b3 = none := upd_none hb3
  have h13 : b1 ≠ b3 := (upd_none_ne hb3).symm
  refine (fun (rest : ∀ (t : List UInt8) (G : Heap), t = nmI i.op → G b1 = some (.var (i.cs.map .d)) → LeH H G → (?T : List UInt8 → Heap → Prop) t G) => ?main) ?rest
  case main =>
    generalize hG : upd (upd H b1 _) b3 _ = G
    have g1 : G b1 = some (.var (i.cs.map .d)) := by rw [← hG, upd_ne _ _ h13, upd_same]; rfl
    have g3 := congrFun hG b3
    rw [upd_same] at g3
    have g3 := g3.symm
    have gl : LeH H G := by rw [← hG]; exact leH_upd hb3' (leH_upd hb1 (.refl H))
    refine gif_split (fun h => ?_) (fun h => ?_)
    · have h1 : 1 ≤ i.op := of_decide_eq_true h
      simp -dsimp (maxDischargeDepth := 9) only [go_sem, Nat.reduceBEq, Nat.reduceLT, Nat.reduceAdd, Nat.reduceSub, Nat.reduceMul, Nat.reduceLeDiff, Int.reduceLE, Int.toNat_natCast, Int.natCast_nonneg, List.getElem?_map, List.length_map, Nat.zero_add, eq_self, Bool.not_true, Bool.not_false, h, g1, Ins.cs]
      refine gif_split (fun h' => ?_) (fun h' => ?_)
      · have h2 : i.op ≤ 17 := of_decide_eq_true h'
        have hw : IntKind.i64.wrap (i.op - 1) = i.op - 1 := wrap_in (by omega) (by omega)
        simp -dsimp (maxDischargeDepth := 9) only [go_sem, Nat.reduceBEq, Nat.reduceLT, Nat.reduceAdd, Nat.reduceSub, Nat.reduceMul, Nat.reduceLeDiff, Int.reduceLE, Int.toNat_natCast, Int.natCast_nonneg, List.getElem?_map, List.length_map, Nat.zero_add, eq_self, Bool.not_true, Bool.not_false, h', g1, g3, Ins.cs, hw]
        refine andK_split (by omega) ?_
        simp -dsimp (maxDischargeDepth := 9) only [go_sem, Nat.reduceBEq, Nat.reduceLT, Nat.reduceAdd, Nat.reduceSub, Nat.reduceMul, Nat.reduceLeDiff, Int.reduceLE, Int.toNat_natCast, Int.natCast_nonneg, List.getElem?_map, List.length_map, Nat.zero_add, eq_self, Bool.not_true, Bool.not_false, g3, Nat.mul_one]
        refine andK_split (by omega) ?_
        simp -dsimp (maxDischargeDepth := 9) only [go_sem, Nat.reduceBEq, Nat.reduceLT, Nat.reduceAdd, Nat.reduceSub, Nat.reduceMul, Nat.reduceLeDiff, Int.reduceLE, Int.toNat_natCast, Int.natCast_nonneg, List.getElem?_map, List.length_map, Nat.zero_add, eq_self, Bool.not_true, Bool.not_false, g3, Nat.mul_one]
        refine onSome_of (x := .str ⟨(nmI i.op).toArray⟩) ?_ ?_
        · obtain ⟨k, hk⟩ : ∃ k : Nat, i.op = k := ⟨i.op.toNat, by omega⟩
          have hn : nmI i.op = names18.getD k [] := by unfold nmI; rw [if_pos (by omega), hk]; rfl
          rw [hn, hk]
          have : k = 1 ∨ k = 2 ∨ k = 3 ∨ k = 4 ∨ k = 5 ∨ k = 6 ∨ k = 7 ∨ k = 8 ∨ k = 9 ∨ k = 10 ∨ k = 11 ∨ k = 12 ∨ k = 13 ∨ k = 14 ∨ k = 15 ∨ k = 16 ∨ k = 17 := by omega
          rcases this with rfl | rfl | rfl | rfl | rfl | rfl | rfl | rfl | rfl | rfl | rfl | rfl | rfl | rfl | rfl | rfl | rfl <;> rfl
        · simp -dsimp (maxDischargeDepth := 9) only [go_sem, Nat.reduceBEq, Nat.reduceLT, Nat.reduceAdd, Nat.reduceSub, Nat.reduceMul, Nat.reduceLeDiff, Int.reduceLE, Int.toNat_natCast, Int.natCast_nonneg, List.getElem?_map, List.length_map, Nat.zero_add, eq_self, Bool.not_true, Bool.not_false, g1, Ins.cs]
          generalize ht : nmI i.op = t0 at rest ⊢
          exact rest t0 G rfl g1 gl
      · have h2 : ¬ i.op ≤ 17 := of_decide_eq_false h'
        simp -dsimp (maxDischargeDepth := 9) only [go_sem, Nat.reduceBEq, Nat.reduceLT, Nat.reduceAdd, Nat.reduceSub, Nat.reduceMul, Nat.reduceLeDiff, Int.reduceLE, Int.toNat_natCast, Int.natCast_nonneg, List.getElem?_map, List.length_map, Nat.zero_add, eq_self, Bool.not_true, Bool.not_false, h', g1, Ins.cs]
        have hn : nmI i.op = [63] := by unfold nmI; rw [if_neg (fun x => h2 (by omega))]
        generalize ([63] : List UInt8) = t0 at hn ⊢; exact rest t0 G hn.symm g1 gl
    · have h1 : ¬ 1 ≤ i.op := of_decide_eq_false h
      simp -dsimp (maxDischargeDepth := 9) only [go_sem, Nat.reduceBEq, Nat.reduceLT, Nat.reduceAdd, Nat.reduceSub, Nat.reduceMul, Nat.reduceLeDiff, Int.reduceLE, Int.toNat_natCast, Int.natCast_nonneg, List.getElem?_map, List.length_map, Nat.zero_add, eq_self, Bool.not_true, Bool.not_false, h, g1, Ins.cs]
      have hn : nmI i.op = [63] := by unfold nmI; rw [if_neg (fun x => h1 (by omega))]
      generalize ([63] : List UInt8) = t0 at hn ⊢; exact rest t0 G hn.symm g1 gl
  case rest =>
    rintro t G ht g1 gl
    have htl : t.length ≤ 7 := by rw [ht]; exact nmI_len _
    obtain ⟨ns, hns⟩ : ∃ ns, ns = [i.a, i.b, i.c, i.n, i.l] := ⟨_, rfl⟩
    have hnr : ∀ n ∈ ns, InR n := by rw [hns]; exact hi.nums
    have hnl : ns.length = 5 := by rw [hns]; rfl
    refine newV_intro (fun b5 v5 hb5 hn5 hm5 hv5 => ?_)
    simp -dsimp (maxDischargeDepth := 9) only [go_sem, Nat.reduceBEq, Nat.reduceLT, Nat.reduceAdd, Nat.reduceSub, Nat.reduceMul, Nat.reduceLeDiff, Int.reduceLE, Int.toNat_natCast, Int.natCast_nonneg, List.getElem?_map, List.length_map, Nat.zero_add, eq_self, Bool.not_true, Bool.not_false, hn5, hm5]
    have h15 : b1 ≠ b5 := by rintro rfl; rw [g1] at hb5; cases hb5
    have hHb5 : H b5 = none := le_none gl hb5
    refine svc_loop (X := Nat) (fun k => [(1, .ref b1 0), (4, .d (.str ⟨(t ++ numsL (ns.take k)).toArray⟩)), (36, .own b5 v5), (37, .d (.int .i64 5)), (38, .d (.int .i64 k))])
      (fun k G' => k ≤ 5 ∧ LeH (upd G b5 (.arr 3 1 v5 (ns.map (D.int .i64)))) G') (fun k => 5 - k) 0 _ ⟨by omega, .refl _⟩ (by simp -dsimp (maxDischargeDepth := 9) only [go_sem, Nat.reduceBEq, Nat.reduceLT, Nat.reduceAdd, Nat.reduceSub, Nat.reduceMul, Nat.reduceLeDiff, Int.reduceLE, Int.toNat_natCast, Int.natCast_nonneg, List.getElem?_map, List.length_map, Nat.zero_add, eq_self, Bool.not_true, Bool.not_false]; simp [numsL]) (by rw [hns]; exact .refl _) ?_
    rintro k G' ⟨hk, gle⟩
    have g5 : G' b5 = some (.arr 3 1 v5 (ns.map (D.int .i64))) := gle b5 _ (upd_same ..)
    have hlen : (numsL (ns.take k)).length ≤ 105 := by
      have := numsL_len (ns.take k) (fun n hn => hnr n (List.mem_of_mem_take hn))
      simp only [List.length_take] at this; omega
    simp -dsimp (maxDischargeDepth := 9) only [go_sem, Nat.reduceBEq, Nat.reduceLT, Nat.reduceAdd, Nat.reduceSub, Nat.reduceMul, Nat.reduceLeDiff, Int.reduceLE, Int.toNat_natCast, Int.natCast_nonneg, List.getElem?_map, List.length_map, Nat.zero_add, eq_self, Bool.not_true, Bool.not_false]
    refine gif_split (fun h => ?_) (fun h => ?_)
    · have hk5 : k < 5 := by have := of_decide_eq_true h; omega
      obtain ⟨n, hn⟩ : ∃ n, ns[k]? = some n := ⟨ns[k], List.getElem?_eq_getElem (by omega)⟩
      have hnn := hnr n (List.mem_of_getElem? hn)
      have hw : IntKind.i64.wrap ((k : Int) + 1) = ((k + 1 : Nat) : Int) := by rw [wrap_in (by omega) (by omega)]; omega
      have hil := itoa_len hnn
      simp -dsimp (maxDischargeDepth := 9) only [go_sem, Nat.reduceBEq, Nat.reduceLT, Nat.reduceAdd, Nat.reduceSub, Nat.reduceMul, Nat.reduceLeDiff, Int.reduceLE, Int.toNat_natCast, Int.natCast_nonneg, List.getElem?_map, List.length_map, Nat.zero_add, eq_self, Bool.not_true, Bool.not_false, h, g5]
      refine andK_split (by omega) ?_
      simp -dsimp (maxDischargeDepth := 9) only [go_sem, Nat.reduceBEq, Nat.reduceLT, Nat.reduceAdd, Nat.reduceSub, Nat.reduceMul, Nat.reduceLeDiff, Int.reduceLE, Int.toNat_natCast, Int.natCast_nonneg, List.getElem?_map, List.length_map, Nat.zero_add, eq_self, Bool.not_true, Bool.not_false, g5, hn]
      refine decimal_ok _ n hnn.1 hnn.2 _ ?_
      simp -dsimp (maxDischargeDepth := 9) only [go_sem, Nat.reduceBEq, Nat.reduceLT, Nat.reduceAdd, Nat.reduceSub, Nat.reduceMul, Nat.reduceLeDiff, Int.reduceLE, Int.toNat_natCast, Int.natCast_nonneg, List.getElem?_map, List.length_map, Nat.zero_add, eq_self, Bool.not_true, Bool.not_false]
      refine andK_split (by simp only [List.size_toArray, List.length_cons, List.length_nil]; omega) ?_
      simp -dsimp (maxDischargeDepth := 9) only [go_sem, Nat.reduceBEq, Nat.reduceLT, Nat.reduceAdd, Nat.reduceSub, Nat.reduceMul, Nat.reduceLeDiff, Int.reduceLE, Int.toNat_natCast, Int.natCast_nonneg, List.getElem?_map, List.length_map, Nat.zero_add, eq_self, Bool.not_true, Bool.not_false, app_mk]
      refine andK_split (by simp only [List.size_toArray, List.length_cons, List.length_append]; omega) ?_
      simp -dsimp (maxDischargeDepth := 9) only [go_sem, Nat.reduceBEq, Nat.reduceLT, Nat.reduceAdd, Nat.reduceSub, Nat.reduceMul, Nat.reduceLeDiff, Int.reduceLE, Int.toNat_natCast, Int.natCast_nonneg, List.getElem?_map, List.length_map, Nat.zero_add, eq_self, Bool.not_true, Bool.not_false, app_mk, hw]
      exact roundQ_next (k + 1) _ ⟨by omega, gle⟩ (by omega) (by simp -dsimp (maxDischargeDepth := 9) only [go_sem, Nat.reduceBEq, Nat.reduceLT, Nat.reduceAdd, Nat.reduceSub, Nat.reduceMul, Nat.reduceLeDiff, Int.reduceLE, Int.toNat_natCast, Int.natCast_nonneg, List.getElem?_map, List.length_map, Nat.zero_add, eq_self, Bool.not_true, Bool.not_false]; simp [take_snoc hn, numsL_snoc]) (.refl _)
    · have hk5 : k = 5 := by have := of_decide_eq_false h; omega
      subst hk5
      have htk : ns.take 5 = ns := List.take_of_length_le (by omega)
      rw [htk] at hlen
      have g1' : G' b1 = some (.var (i.cs.map .d)) := gle b1 _ (by rw [upd_ne _ _ h15]; exact g1)
      have gl' : LeH H G' := fun x o hx => gle x o (leH_upd hHb5 gl x o hx)
      simp -dsimp (maxDischargeDepth := 9) only [go_sem, Nat.reduceBEq, Nat.reduceLT, Nat.reduceAdd, Nat.reduceSub, Nat.reduceMul, Nat.reduceLeDiff, Int.reduceLE, Int.toNat_natCast, Int.natCast_nonneg, List.getElem?_map, List.length_map, Nat.zero_add, eq_self, Bool.not_true, Bool.not_false, h, htk, g1', Ins.cs, ints]
      obtain ⟨ls, hls⟩ : ∃ ls, ls = [i.list, i.outs, i.live] := ⟨_, rfl⟩
      have hlr : ∀ l ∈ ls, l.length ≤ 1048576 ∧ ∀ n ∈ l, InR n := by rw [hls]; exact hi.lists
      have hll : ls.length = 3 := by rw [hls]; rfl
      have htext : textI i = (t ++ numsL ns) ++ ls.flatMap listL := by rw [ht, hns, hls]; simp [textI]
      have ht2 : (t ++ numsL ns).length ≤ 120 := by rw [List.length_append]; omega
      generalize t ++ numsL ns = t2 at htext ht2 ⊢
      refine newV_intro (fun b7 v7 hb7 hn7 hm7 hv7 => ?_)
      simp -dsimp (maxDischargeDepth := 9) only [go_sem, Nat.reduceBEq, Nat.reduceLT, Nat.reduceAdd, Nat.reduceSub, Nat.reduceMul, Nat.reduceLeDiff, Int.reduceLE, Int.toNat_natCast, Int.natCast_nonneg, List.getElem?_map, List.length_map, Nat.zero_add, eq_self, Bool.not_true, Bool.not_false, hn7, hm7]
      have hHb7 : H b7 = none := le_none gl' hb7
      refine svc_loop (X := Nat) (fun k => [(4, .d (.str ⟨(t2 ++ (ls.take k).flatMap listL).toArray⟩)), (54, .own b7 v7), (55, .d (.int .i64 3)), (56, .d (.int .i64 k))])
        (fun k G2 => k ≤ 3 ∧ LeH (upd G' b7 (.arr 44 1 v7 (ls.map ints))) G2) (fun k => 3 - k) 0 _ ⟨by omega, .refl _⟩ (by simp -dsimp (maxDischargeDepth := 9) only [go_sem, Nat.reduceBEq, Nat.reduceLT, Nat.reduceAdd, Nat.reduceSub, Nat.reduceMul, Nat.reduceLeDiff, Int.reduceLE, Int.toNat_natCast, Int.natCast_nonneg, List.getElem?_map, List.length_map, Nat.zero_add, eq_self, Bool.not_true, Bool.not_false]; simp) (by rw [hls]; simp only [List.map_cons, List.map_nil, ints]; exact .refl _) ?_
      rintro k G2 ⟨hk, gl2⟩
      have g7 : G2 b7 = some (.arr 44 1 v7 (ls.map ints)) := gl2 b7 _ (upd_same ..)
      have hlen2 : ((ls.take k).flatMap listL).length ≤ 70000000 := by
        have := lists_len (ls.take k) (fun l hl => hlr l (List.mem_of_mem_take hl))
        simp only [List.length_take] at this; omega
      simp -dsimp (maxDischargeDepth := 9) only [go_sem, Nat.reduceBEq, Nat.reduceLT, Nat.reduceAdd, Nat.reduceSub, Nat.reduceMul, Nat.reduceLeDiff, Int.reduceLE, Int.toNat_natCast, Int.natCast_nonneg, List.getElem?_map, List.length_map, Nat.zero_add, eq_self, Bool.not_true, Bool.not_false]
      refine gif_split (fun h => ?_) (fun h => ?_)
      · have hk3 : k < 3 := by have := of_decide_eq_true h; omega
        obtain ⟨l, hl⟩ : ∃ l, ls[k]? = some l := ⟨ls[k], List.getElem?_eq_getElem (by omega)⟩
        obtain ⟨hl1, hl2⟩ := hlr l (List.mem_of_getElem? hl)
        have hw : IntKind.i64.wrap ((k : Int) + 1) = ((k + 1 : Nat) : Int) := by rw [wrap_in (by omega) (by omega)]; omega
        simp -dsimp (maxDischargeDepth := 9) only [go_sem, Nat.reduceBEq, Nat.reduceLT, Nat.reduceAdd, Nat.reduceSub, Nat.reduceMul, Nat.reduceLeDiff, Int.reduceLE, Int.toNat_natCast, Int.natCast_nonneg, List.getElem?_map, List.length_map, Nat.zero_add, eq_self, Bool.not_true, Bool.not_false, h, g7]
        refine andK_split (by omega) ?_
        simp -dsimp (maxDischargeDepth := 9) only [go_sem, Nat.reduceBEq, Nat.reduceLT, Nat.reduceAdd, Nat.reduceSub, Nat.reduceMul, Nat.reduceLeDiff, Int.reduceLE, Int.toNat_natCast, Int.natCast_nonneg, List.getElem?_map, List.length_map, Nat.zero_add, eq_self, Bool.not_true, Bool.not_false, g7, hl, ints]
        refine andK_split (by simp only [List.size_toArray, List.length_cons, List.length_nil, List.length_append]; omega) ?_
        simp -dsimp (maxDischargeDepth := 9) only [go_sem, Nat.reduceBEq, Nat.reduceLT, Nat.reduceAdd, Nat.reduceSub, Nat.reduceMul, Nat.reduceLeDiff, Int.reduceLE, Int.toNat_natCast, Int.natCast_nonneg, List.getElem?_map, List.length_map, Nat.zero_add, eq_self, Bool.not_true, Bool.not_false, app_mk]
        refine svc_loop (X := Nat) (fun j => [(4, .d (.str ⟨(t2 ++ (ls.take k).flatMap listL ++ [32, 91] ++ joinI (l.take j)).toArray⟩)), (54, .own b7 v7), (55, .d (.int .i64 3)), (56, .d (.int .i64 k)), (62, .d (ints l)), (63, .d (.int .i64 l.length)), (64, .d (.int .i64 j))])
          (fun j G3 => j ≤ l.length ∧ LeH G2 G3) (fun j => l.length - j) 0 _ ⟨by omega, .refl _⟩ (by simp -dsimp (maxDischargeDepth := 9) only [go_sem, Nat.reduceBEq, Nat.reduceLT, Nat.reduceAdd, Nat.reduceSub, Nat.reduceMul, Nat.reduceLeDiff, Int.reduceLE, Int.toNat_natCast, Int.natCast_nonneg, List.getElem?_map, List.length_map, Nat.zero_add, eq_self, Bool.not_true, Bool.not_false]; simp [ints, joinI_nil]) (.refl _) ?_
        rintro j G3 ⟨hj, gl3⟩
        have hjn : (joinI (l.take j)).length ≤ 21 * 1048576 := by
          have := join_len (l.take j) (fun n hn => hl2 n (List.mem_of_mem_take hn))
          simp only [List.length_take] at this
          unfold joinI; omega
        simp -dsimp (maxDischargeDepth := 9) only [go_sem, Nat.reduceBEq, Nat.reduceLT, Nat.reduceAdd, Nat.reduceSub, Nat.reduceMul, Nat.reduceLeDiff, Int.reduceLE, Int.toNat_natCast, Int.natCast_nonneg, List.getElem?_map, List.length_map, Nat.zero_add, eq_self, Bool.not_true, Bool.not_false]
        refine gif_split (fun h2 => ?_) (fun h2 => ?_)
        · have hjl : j < l.length := by have := of_decide_eq_true h2; omega
          obtain ⟨n, hn⟩ : ∃ n, l[j]? = some n := ⟨l[j], List.getElem?_eq_getElem hjl⟩
          have hnn := hl2 n (List.mem_of_getElem? hn)
          have hil := itoa_len hnn
          have hw2 : IntKind.i64.wrap ((j : Int) + 1) = ((j + 1 : Nat) : Int) := by rw [wrap_in (by omega) (by omega)]; omega
          simp -dsimp (maxDischargeDepth := 9) only [go_sem, Nat.reduceBEq, Nat.reduceLT, Nat.reduceAdd, Nat.reduceSub, Nat.reduceMul, Nat.reduceLeDiff, Int.reduceLE, Int.toNat_natCast, Int.natCast_nonneg, List.getElem?_map, List.length_map, Nat.zero_add, eq_self, Bool.not_true, Bool.not_false, h2, ints, hn]
          refine gif_split (fun h4 => ?_) (fun h4 => ?_)
          · have hj0 : 0 < j := by have := of_decide_eq_true h4; omega
            have hne : l.take j ≠ [] := by intro e; have := congrArg List.length e; simp at this; rcases this with h | h; omega; subst h; simp at hjl
            simp -dsimp (maxDischargeDepth := 9) only [go_sem, Nat.reduceBEq, Nat.reduceLT, Nat.reduceAdd, Nat.reduceSub, Nat.reduceMul, Nat.reduceLeDiff, Int.reduceLE, Int.toNat_natCast, Int.natCast_nonneg, List.getElem?_map, List.length_map, Nat.zero_add, eq_self, Bool.not_true, Bool.not_false, h4]
            refine andK_split (by simp only [List.size_toArray, List.length_cons, List.length_nil, List.length_append]; omega) ?_
            simp -dsimp (maxDischargeDepth := 9) only [go_sem, Nat.reduceBEq, Nat.reduceLT, Nat.reduceAdd, Nat.reduceSub, Nat.reduceMul, Nat.reduceLeDiff, Int.reduceLE, Int.toNat_natCast, Int.natCast_nonneg, List.getElem?_map, List.length_map, Nat.zero_add, eq_self, Bool.not_true, Bool.not_false, app_mk]
            refine decimal_ok _ n hnn.1 hnn.2 _ ?_
            simp -dsimp (maxDischargeDepth := 9) only [go_sem, Nat.reduceBEq, Nat.reduceLT, Nat.reduceAdd, Nat.reduceSub, Nat.reduceMul, Nat.reduceLeDiff, Int.reduceLE, Int.toNat_natCast, Int.natCast_nonneg, List.getElem?_map, List.length_map, Nat.zero_add, eq_self, Bool.not_true, Bool.not_false]
            refine andK_split (by simp only [List.size_toArray, List.length_cons, List.length_nil, List.length_append]; omega) ?_
            simp -dsimp (maxDischargeDepth := 9) only [go_sem, Nat.reduceBEq, Nat.reduceLT, Nat.reduceAdd, Nat.reduceSub, Nat.reduceMul, Nat.reduceLeDiff, Int.reduceLE, Int.toNat_natCast, Int.natCast_nonneg, List.getElem?_map, List.length_map, Nat.zero_add, eq_self, Bool.not_true, Bool.not_false, app_mk, hw2]
            exact roundQ_next (j + 1) _ ⟨by omega, gl3⟩ (by omega) (by simp -dsimp (maxDischargeDepth := 9) only [go_sem, Nat.reduceBEq, Nat.reduceLT, Nat.reduceAdd, Nat.reduceSub, Nat.reduceMul, Nat.reduceLeDiff, Int.reduceLE, Int.toNat_natCast, Int.natCast_nonneg, List.getElem?_map, List.length_map, Nat.zero_add, eq_self, Bool.not_true, Bool.not_false]; simp [ints, take_snoc hn, joinI_snoc hne]) (.refl _)
          · have hj0 : j = 0 := by have := of_decide_eq_false h4; omega
            subst hj0
            simp -dsimp (maxDischargeDepth := 9) only [go_sem, Nat.reduceBEq, Nat.reduceLT, Nat.reduceAdd, Nat.reduceSub, Nat.reduceMul, Nat.reduceLeDiff, Int.reduceLE, Int.toNat_natCast, Int.natCast_nonneg, List.getElem?_map, List.length_map, Nat.zero_add, eq_self, Bool.not_true, Bool.not_false, h4, joinI_nil, List.append_nil]
            refine decimal_ok _ n hnn.1 hnn.2 _ ?_
            simp -dsimp (maxDischargeDepth := 9) only [go_sem, Nat.reduceBEq, Nat.reduceLT, Nat.reduceAdd, Nat.reduceSub, Nat.reduceMul, Nat.reduceLeDiff, Int.reduceLE, Int.toNat_natCast, Int.natCast_nonneg, List.getElem?_map, List.length_map, Nat.zero_add, eq_self, Bool.not_true, Bool.not_false, joinI_nil, List.append_nil]
            refine andK_split (by simp only [List.size_toArray, List.length_cons, List.length_nil, List.length_append]; omega) ?_
            simp -dsimp (maxDischargeDepth := 9) only [go_sem, Nat.reduceBEq, Nat.reduceLT, Nat.reduceAdd, Nat.reduceSub, Nat.reduceMul, Nat.reduceLeDiff, Int.reduceLE, Int.toNat_natCast, Int.natCast_nonneg, List.getElem?_map, List.length_map, Nat.zero_add, eq_self, Bool.not_true, Bool.not_false, app_mk, hw2]
            exact roundQ_next 1 _ ⟨by omega, gl3⟩ (by omega) (by simp -dsimp (maxDischargeDepth := 9) only [go_sem, Nat.reduceBEq, Nat.reduceLT, Nat.reduceAdd, Nat.reduceSub, Nat.reduceMul, Nat.reduceLeDiff, Int.reduceLE, Int.toNat_natCast, Int.natCast_nonneg, List.getElem?_map, List.length_map, Nat.zero_add, eq_self, Bool.not_true, Bool.not_false]; simp [ints, take_snoc hn, joinI_nil, joinI_one]) (.refl _)
        · have hjl : j = l.length := by have := of_decide_eq_false h2; omega
          subst hjl
          have htl2 : l.take l.length = l := List.take_length
          rw [htl2] at hjn
          simp -dsimp (maxDischargeDepth := 9) only [go_sem, Nat.reduceBEq, Nat.reduceLT, Nat.reduceAdd, Nat.reduceSub, Nat.reduceMul, Nat.reduceLeDiff, Int.reduceLE, Int.toNat_natCast, Int.natCast_nonneg, List.getElem?_map, List.length_map, Nat.zero_add, eq_self, Bool.not_true, Bool.not_false, h2, htl2]
          refine andK_split (by simp only [List.size_toArray, List.length_cons, List.length_nil, List.length_append]; omega) ?_
          simp -dsimp (maxDischargeDepth := 9) only [go_sem, Nat.reduceBEq, Nat.reduceLT, Nat.reduceAdd, Nat.reduceSub, Nat.reduceMul, Nat.reduceLeDiff, Int.reduceLE, Int.toNat_natCast, Int.natCast_nonneg, List.getElem?_map, List.length_map, Nat.zero_add, eq_self, Bool.not_true, Bool.not_false, app_mk, hw]
          exact roundQ_next (k + 1) _ ⟨by omega, fun x o hx => gl3 x o (gl2 x o hx)⟩ (by omega) (by simp -dsimp (maxDischargeDepth := 9) only [go_sem, Nat.reduceBEq, Nat.reduceLT, Nat.reduceAdd, Nat.reduceSub, Nat.reduceMul, Nat.reduceLeDiff, Int.reduceLE, Int.toNat_natCast, Int.natCast_nonneg, List.getElem?_map, List.length_map, Nat.zero_add, eq_self, Bool.not_true, Bool.not_false]; simp [take_snoc hl, flat_snoc, listL, joinI]) (.refl _)
      · have hk3 : k = 3 := by have := of_decide_eq_false h; omega
        subst hk3
        have htk3 : ls.take 3 = ls := List.take_of_length_le (by omega)
        simp -dsimp (maxDischargeDepth := 9) only [go_sem, Nat.reduceBEq, Nat.reduceLT, Nat.reduceAdd, Nat.reduceSub, Nat.reduceMul, Nat.reduceLeDiff, Int.reduceLE, Int.toNat_natCast, Int.natCast_nonneg, List.getElem?_map, List.length_map, Nat.zero_add, eq_self, Bool.not_true, Bool.not_false, h, htk3]
        refine retW_drop (G := H) (fun x o hx => gl2 x o (leH_upd hHb7 gl' x o hx)) (retW_is ?_)
        rw [htext] at hK
        exact hK
end Go.Aug

/- CodeTexts, of instructions whose numbers are ints and whose lists are no longer than 2^20. -/
namespace Go.Aug
open Go.Proofs
set_option maxRecDepth 100000
set_option linter.unusedSimpArgs false
attribute [local irreducible] hid andK letA onSome onVar onArr arrOnly onInt onBool onFunc onTup idxA ldV ldD addO ofPart appTo fillL slA srcK nilQ retW gif sgd sguard svc sops sdops sagain aopO aLoad aStore aBin aUn aConv aLen aIndexAddr aIndex aIndexAddrS aIndexS aSlice aAppend aBuild aBuildSlice aMakeSlice aField aFieldOf aCallOp deepK deepL frzM putE newK newV growV ACall roundQ thenQ inBlockQ sret cnd szs nilC onMap onRow aLookup aMapUpdate aMakeMap
variable {eb : Nat → Addr} {mm : Nat → Option Obj}

theorem codeTexts_ok (hm : TabM mm) (H : Heap) (i : Ins) (hi : i.ok) : ACall Tryz.prog (seatZ eb mm) 4 [.d i.d] H (fun r _ => r = .d (.bool true)) := by
  refine ACall.by mixed fn4 (by simp) ?_
  conv in s4 => cbv
  refine svc_start ?_
  simp -dsimp (maxDischargeDepth := 9) only [go_sem, Nat.reduceBEq, Nat.reduceLT, Nat.reduceAdd, Nat.reduceSub, Nat.reduceMul, Nat.reduceLeDiff, Int.reduceLE, Int.toNat_natCast, Int.natCast_nonneg, List.getElem?_map, List.length_map, Nat.zero_add, eq_self, Bool.not_true, Bool.not_false, Ins.d, Ins.cs]
  refine newK_intro (fun b1 hb1 hn1 hm1 => ?_)
  simp -dsimp (maxDischargeDepth := 9) only [go_sem, Nat.reduceBEq, Nat.reduceLT, Nat.reduceAdd, Nat.reduceSub, Nat.reduceMul, Nat.reduceLeDiff, Int.reduceLE, Int.toNat_natCast, Int.natCast_nonneg, List.getElem?_map, List.length_map, Nat.zero_add, eq_self, Bool.not_true, Bool.not_false]
  refine (alive15 hm _).mono ?_
  rintro r G ⟨rfl, rfl⟩
  simp -dsimp (maxDischargeDepth := 9) only [go_sem, Nat.reduceBEq, Nat.reduceLT, Nat.reduceAdd, Nat.reduceSub, Nat.reduceMul, Nat.reduceLeDiff, Int.reduceLE, Int.toNat_natCast, Int.natCast_nonneg, List.getElem?_map, List.length_map, Nat.zero_add, eq_self, Bool.not_true, Bool.not_false]
  refine text_ok hm _ i hi _ ?_
  simp -dsimp (maxDischargeDepth := 9) only [go_sem, Nat.reduceBEq, Nat.reduceLT, Nat.reduceAdd, Nat.reduceSub, Nat.reduceMul, Nat.reduceLeDiff, Int.reduceLE, Int.toNat_natCast, Int.natCast_nonneg, List.getElem?_map, List.length_map, Nat.zero_add, eq_self, Bool.not_true, Bool.not_false]
  refine rtext_ok _ i hi _ ?_
  simp -dsimp (maxDischargeDepth := 9) only [go_sem, Nat.reduceBEq, Nat.reduceLT, Nat.reduceAdd, Nat.reduceSub, Nat.reduceMul, Nat.reduceLeDiff, Int.reduceLE, Int.toNat_natCast, Int.natCast_nonneg, List.getElem?_map, List.length_map, Nat.zero_add, eq_self, Bool.not_true, Bool.not_false]
  exact retW_is rfl
end Go.Aug
