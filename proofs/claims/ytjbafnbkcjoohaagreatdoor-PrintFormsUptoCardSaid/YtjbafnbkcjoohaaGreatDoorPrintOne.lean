/- The contracts of strings.Builder, strings.Join, strconv.Itoa and of print's smaller functions; conditions stand in each contract. -/
import Derived.Test.YtjbafnbkcjoohaaGreatDoorFacts
import Derived.Test.YtjbafnbkcjoohaaGreatDoorShelf
import Derived.Sort.Grow
import Derived.Test.YtjbafnbkcjoohaaGreatDoorAugFive
set_option linter.all false
set_option linter.unusedVariables false
set_option linter.unusedSimpArgs false
set_option linter.unusedSectionVars false

/- strings.Join and strconv.Itoa, by the library's contracts. -/
namespace Go.Aug
open Go.Proofs Go.RowKit
set_option maxRecDepth 100000
variable {eb : Nat → Addr} {mm : Nat → Option Obj} {H : Heap} {K : A → Heap → Prop}

/-- The library's table of powers of ten lies as its text lays it. -/
def TabM (mm : Nat → Option Obj) : Prop := ∃ T fr, mm 6 = some (.cells (Lib.pow10Tab.map fun z => Value.int .u64 z).toArray T fr)

theorem pow10_named : Tryz.prog.globalNamed "internal/strconv.uint64pow10" = some 6 := by kernel_rfl

theorem below_grow (w : World) (k : Nat) (os : Array Obj) : Below w.heap.size w (Go.Sort.grow (w.drewN k) os) :=
  ⟨rfl, rfl, rfl, by show w.heap.size ≤ (w.heap ++ os).size; simp, fun i hi => by show (w.heap ++ os)[i]? = w.heap[i]?; rw [Array.getElem?_append_left hi]⟩

theorem itoa_ok (hm : TabM mm) (n : Int) (h0 : -9223372036854775808 ≤ n) (h1 : n ≤ 9223372036854775807) (hK : K (.d (.str ⟨(Lib.itoa n).toArray⟩)) H) : ACall Tryz.prog (seatZ eb mm) 38 [.d (.int .i64 n)] H K := by
  intro Z w cv hl hr m
  match cv, hl with
  | [v], _ =>
    have r := (hr 0 (by simp) (by simp)).deep
    simp only [List.getElem_cons_zero] at r
    cases r
    obtain ⟨T, fr, ht⟩ := hm
    obtain ⟨_, _, hh⟩ := m.env.fix 6 _ ht
    have htab : Lib.TabIs Tryz.prog w "internal/strconv.uint64pow10" .u64 Lib.pow10Tab := by
      unfold Lib.TabIs World.var?
      simp [pow10_named, hh]
    refine (Tryz.strconv_Itoa n h0 h1 w htab).mono ?_
    rintro e w' ⟨rfl, k, os, rfl⟩
    obtain ⟨m', x'⟩ := m.below (below_grow w k os)
    exact ⟨_, _, Z, H, rfl, .d _ _ (.str _), m', x', hK⟩

theorem flat_strs (ws : List ByteArray) : flat (ws.map .str) = ws.map .str := by
  induction ws with
  | nil => rfl
  | cons x l ih => simp only [flat, List.map_cons, List.flatMap_cons] at ih ⊢; rw [ih]; rfl

theorem join_ok (ws : List ByteArray) (sep : ByteArray) (h1 : ws.length ≤ 140737488355328) (h2 : (Lib.join (ws.map (·.data.toList)) sep.data.toList).length ≤ 140737488355328)
    (hK : K (.d (.str ⟨(Lib.join (ws.map (·.data.toList)) sep.data.toList).toArray⟩)) H) : ACall Tryz.prog (seatZ eb mm) 41 [.d (.slice (ws.map .str)), .d (.str sep)] H K := by
  intro Z w cv hl hr m
  match cv, hl with
  | [v, u], _ =>
    have r := (hr 0 (by simp) (by simp)).deep
    have r2 := (hr 1 (by simp) (by simp)).deep
    simp only [List.getElem_cons_zero, List.getElem_cons_succ] at r r2
    cases r2
    generalize he : ws.map D.str = es at r
    cases r with
    | empty a cap =>
      have : ws = [] := by simpa using he
      subst this
      refine (Tryz.strings_Join_none a cap sep w).mono ?_
      rintro e w' ⟨rfl, rfl⟩
      exact ⟨_, _, Z, H, rfl, .d _ _ (.str _), m, .refl .., hK⟩
    | slice b o cap _ sz cvs hk hz hb hs hc hone hrr =>
      subst he
      have hlen : (ws.map D.str).length = ws.length := by simp
      have hfl := flat_strs ws
      have hcells : ∀ (j : Nat) x, ws[j]? = some x → w.cell? ⟨b, o + j, none⟩ = some (.string x) := by
        intro j x hx
        obtain ⟨hj, rfl⟩ := List.getElem?_eq_some_iff.1 hx
        have hj' : j < (flat (ws.map D.str)).length := by rw [hfl]; simpa using hj
        have h3 := hrr j hj'
        have h4 : (flat (ws.map D.str))[j] = .str ws[j] := by simp [hfl]
        rw [h4] at h3
        rw [hc j hj']
        generalize cvs j = y at h3
        cases h3; rfl
      have key := Tryz.strings_Join b o cap ws sep w hcells hb h1 (by rw [← hlen]; exact hk) h2
      rw [hlen]
      refine key.mono ?_
      rintro e w' ⟨rfl, hbl⟩
      obtain ⟨m', x'⟩ := m.below hbl
      exact ⟨_, _, Z, H, rfl, .d _ _ (.str _), m', x', hK⟩

theorem indexByte_ok (s : ByteArray) (c : Int) (hK : K (.d (.int .i64 (Lib.indexByte s.data.toList c.toNat.toUInt8))) H) : ACall Tryz.prog (seatZ eb mm) 192 [.d (.str s), .d (.int .u8 c)] H K := by
  intro Z w cv hl hr m
  match cv, hl with
  | [v, u], _ =>
    have r := (hr 0 (by simp) (by simp)).deep
    have r2 := (hr 1 (by simp) (by simp)).deep
    simp only [List.getElem_cons_zero, List.getElem_cons_succ] at r r2
    cases r; cases r2
    refine (Tryz.strings_IndexByte s c w).mono ?_
    rintro e w' ⟨rfl, rfl⟩
    exact ⟨_, _, Z, H, rfl, .d _ _ (.int ..), m, .refl .., hK⟩
end Go.Aug

/- The reference's decimals are strconv's. -/
namespace Go.Aug
open Go.Proofs
set_option maxRecDepth 100000
set_option linter.unusedSimpArgs false
attribute [local irreducible] hid andK letA onSome onVar onArr arrOnly onInt onBool onFunc onTup idxA ldV ldD addO ofPart appTo fillL slA srcK nilQ retW gif sgd sguard svc sops sdops sagain aopO aLoad aStore aBin aUn aConv aLen aIndexAddr aIndex aIndexAddrS aIndexS aSlice aAppend aBuild aBuildSlice aMakeSlice aField aFieldOf aCallOp deepK deepL frzM putE newK newV growV ACall roundQ thenQ inBlockQ sret cnd szs nilC onMap onRow aLookup aMapUpdate aMakeMap
variable {eb : Nat → Addr} {mm : Nat → Option Obj}

theorem wrap_in {n : Int} (h0 : -9223372036854775808 ≤ n) (h1 : n ≤ 9223372036854775807) : IntKind.i64.wrap n = n := by
  rw [IntKind.wrap_i64]; omega

theorem tdiv_natAbs (m : Int) : (m.tdiv 10).natAbs = m.natAbs / 10 := by
  rw [Int.natAbs_tdiv]; rfl
theorem tmod_natAbs (m : Int) : (m.tmod 10).natAbs = m.natAbs % 10 := by
  rw [Int.natAbs_tmod]; rfl

theorem dec_big {u : Nat} (h : ¬ u < 10) : Lib.decDigits u = Lib.decDigits (u / 10) ++ [UInt8.ofNat (48 + u % 10)] := by
  rw [Lib.decDigits, dif_neg h]
theorem dec_small {u : Nat} (h : u < 10) : Lib.decDigits u = [UInt8.ofNat (48 + u)] := by
  rw [Lib.decDigits, dif_pos h]

theorem app_mk (a b : List UInt8) : (⟨a.toArray⟩ : ByteArray) ++ ⟨b.toArray⟩ = ⟨(a ++ b).toArray⟩ := by
  rw [← strAdd_eq]
  simp [strAdd]
theorem size_mk (a : List UInt8) : ByteArray.size ⟨a.toArray⟩ = a.length := by simp [ByteArray.size]

theorem byteD_ofNat {n : Nat} (h : n < 256) : byteD (UInt8.ofNat n) = .int .u8 (n : Int) := by
  simp [byteD, Nat.mod_eq_of_lt h]

theorem le_none {H G : Heap} (h : LeH H G) {b : Nat} (hb : G b = none) : H b = none := by
  cases e : H b with
  | none => rfl
  | some o => have := h b o e; rw [hb] at this; cases this

theorem decimal_ok (H : Heap) (n : Int) (h0 : -9223372036854775808 ≤ n) (h1 : n ≤ 9223372036854775807) (K : A → Heap → Prop) (hK : K (.d (.str ⟨(Lib.itoa n).toArray⟩)) H) : ACall Tryz.prog (seatZ eb mm) 39 [.d (.int .i64 n)] H K := by
  refine ACall.by mixed fn39 (by simp) ?_
  conv in s39 => cbv
  refine svc_start ?_
  simp -dsimp (maxDischargeDepth := 9) only [go_sem, Nat.reduceBEq, Nat.reduceLT, Nat.reduceAdd, Nat.reduceSub, Nat.reduceMul, Nat.reduceLeDiff, Int.reduceLE, Int.toNat_natCast, Int.natCast_nonneg, List.getElem?_map, List.length_map, Nat.zero_add, eq_self, Bool.not_true, Bool.not_false]
  refine svc_loop (X := Int × List UInt8 × Nat) (fun x => [(0, .d (.int .i64 n)), (3, .d (.str ⟨x.2.1.toArray⟩)), (4, .d (.int .i64 x.1))])
    (fun x G => LeH H G ∧ x.1.natAbs < 10 ^ x.2.2 ∧ 1 ≤ x.2.2 ∧ x.2.2 + x.2.1.length ≤ 20 ∧ x.1.natAbs ≤ 9223372036854775808 ∧ Lib.decDigits n.natAbs = Lib.decDigits x.1.natAbs ++ x.2.1) (fun x => x.2.2) (n, [], 19) H
    ⟨.refl H, by simp only; omega, by simp, by simp, by simp only; omega, by simp⟩ (by simp -dsimp (maxDischargeDepth := 9) only [go_sem, Nat.reduceBEq, Nat.reduceLT, Nat.reduceAdd, Nat.reduceSub, Nat.reduceMul, Nat.reduceLeDiff, Int.reduceLE, Int.toNat_natCast, Int.natCast_nonneg, List.getElem?_map, List.length_map, Nat.zero_add, eq_self, Bool.not_true, Bool.not_false]) (.refl H) ?_
  rintro ⟨m, s, f⟩ G ⟨hG, hm, hf, hs, hmm, hd⟩
  simp only at hG hm hf hs hmm hd
  have hdm : m.natAbs % 10 < 10 := Nat.mod_lt _ (by decide)
  have ht := tmod_natAbs m
  have hq := tdiv_natAbs m
  have hw1 : m.tmod 10 < 0 → IntKind.i64.wrap (0 - m.tmod 10) = ((m.natAbs % 10 : Nat) : Int) := fun h => by rw [wrap_in (by omega) (by omega)]; omega
  have hw2 : ¬ m.tmod 10 < 0 → m.tmod 10 = ((m.natAbs % 10 : Nat) : Int) := fun h => by omega
  have hw3 : IntKind.i64.wrap (48 + ((m.natAbs % 10 : Nat) : Int)) = ((48 + m.natAbs % 10 : Nat) : Int) := by rw [wrap_in (by omega) (by omega)]; omega
  have hw4 : IntKind.u8.wrap ((48 + m.natAbs % 10 : Nat) : Int) = ((48 + m.natAbs % 10 : Nat) : Int) := by rw [IntKind.wrap_u8]; omega
  have hw5 : IntKind.i64.wrap (m.tdiv 10) = m.tdiv 10 := wrap_in (by omega) (by omega)
  have hby : [D.int .u8 ((48 + m.natAbs % 10 : Nat) : Int)] = [UInt8.ofNat (48 + m.natAbs % 10)].map byteD := by rw [List.map_cons, List.map_nil, byteD_ofNat (by omega)]
  have hsz : ByteArray.size ⟨[UInt8.ofNat (48 + m.natAbs % 10)].toArray⟩ + ByteArray.size ⟨s.toArray⟩ ≤ 9223372036854775807 := by rw [size_mk, size_mk]; simp only [List.length_cons, List.length_nil]; omega
  -- behind the digit
  have fin : ∀ (c : UInt8), c = UInt8.ofNat (48 + m.natAbs % 10) → (m.tdiv 10 = 0 → Lib.decDigits n.natAbs = c :: s) ∧ (m.tdiv 10 ≠ 0 → 2 ≤ f ∧ (m.tdiv 10).natAbs < 10 ^ (f - 1) ∧ Lib.decDigits n.natAbs = Lib.decDigits (m.tdiv 10).natAbs ++ c :: s) := by
    rintro c rfl
    refine ⟨fun h => ?_, fun h => ?_⟩
    · have h10 : m.natAbs < 10 := by omega
      rw [hd, dec_small h10, Nat.mod_eq_of_lt h10]; rfl
    · have h10 : ¬ m.natAbs < 10 := by omega
      have hf2 : 2 ≤ f := by
        rcases Nat.lt_or_ge f 2 with h' | h'
        · have : f = 1 := by omega
          subst this
          simp at hm; omega
        · exact h'
      refine ⟨hf2, ?_, ?_⟩
      · rw [hq]
        have : 10 ^ f = 10 ^ (f - 1) * 10 := by rw [← Nat.pow_succ]; congr 1; omega
        omega
      · rw [hd, dec_big h10, hq]; simp
  simp -dsimp (maxDischargeDepth := 9) only [go_sem, Nat.reduceBEq, Nat.reduceLT, Nat.reduceAdd, Nat.reduceSub, Nat.reduceMul, Nat.reduceLeDiff, Int.reduceLE, Int.toNat_natCast, Int.natCast_nonneg, List.getElem?_map, List.length_map, Nat.zero_add, eq_self, Bool.not_true, Bool.not_false]
  refine andK_split (by omega) ?_
  simp -dsimp (maxDischargeDepth := 9) only [go_sem, Nat.reduceBEq, Nat.reduceLT, Nat.reduceAdd, Nat.reduceSub, Nat.reduceMul, Nat.reduceLeDiff, Int.reduceLE, Int.toNat_natCast, Int.natCast_nonneg, List.getElem?_map, List.length_map, Nat.zero_add, eq_self, Bool.not_true, Bool.not_false]
  refine (fun (rest : ∀ G2, LeH H G2 → (?T : Heap → Prop) G2) => ?main) ?rest
  case main =>
    generalize hG9 : G = G9
    refine gif_split (fun h => ?_) (fun h => ?_)
    · have h' : m.tmod 10 < 0 := of_decide_eq_true h
      have e := hw1 h'
      simp -dsimp (maxDischargeDepth := 9) only [go_sem, Nat.reduceBEq, Nat.reduceLT, Nat.reduceAdd, Nat.reduceSub, Nat.reduceMul, Nat.reduceLeDiff, Int.reduceLE, Int.toNat_natCast, Int.natCast_nonneg, List.getElem?_map, List.length_map, Nat.zero_add, eq_self, Bool.not_true, Bool.not_false, e, hw3, hw4]
      exact rest G9 (hG9 ▸ hG)
    · have h' : ¬ m.tmod 10 < 0 := of_decide_eq_false h
      have e := hw2 h'
      simp -dsimp (maxDischargeDepth := 9) only [go_sem, Nat.reduceBEq, Nat.reduceLT, Nat.reduceAdd, Nat.reduceSub, Nat.reduceMul, Nat.reduceLeDiff, Int.reduceLE, Int.toNat_natCast, Int.natCast_nonneg, List.getElem?_map, List.length_map, Nat.zero_add, eq_self, Bool.not_true, Bool.not_false, e, hw3, hw4]
      exact rest G9 (hG9 ▸ hG)
  case rest =>
    intro G2 hG2
    refine newK_intro (fun b hb hn hm' => ?_)
    have hHb : H b = none := le_none hG2 hb
    simp -dsimp (maxDischargeDepth := 9) only [go_sem, Nat.reduceBEq, Nat.reduceLT, Nat.reduceAdd, Nat.reduceSub, Nat.reduceMul, Nat.reduceLeDiff, Int.reduceLE, Int.toNat_natCast, Int.natCast_nonneg, List.getElem?_map, List.length_map, Nat.zero_add, eq_self, Bool.not_true, Bool.not_false, hw3, hw4]
    refine ⟨_, hby, ?_⟩
    refine andK_split (by simp only [List.size_toArray, List.length_cons, List.length_nil]; omega) ?_
    simp -dsimp (maxDischargeDepth := 9) only [go_sem, Nat.reduceBEq, Nat.reduceLT, Nat.reduceAdd, Nat.reduceSub, Nat.reduceMul, Nat.reduceLeDiff, Int.reduceLE, Int.toNat_natCast, Int.natCast_nonneg, List.getElem?_map, List.length_map, Nat.zero_add, eq_self, Bool.not_true, Bool.not_false, app_mk, hw5]
    refine andK_split (by omega) ?_
    simp -dsimp (maxDischargeDepth := 9) only [go_sem, Nat.reduceBEq, Nat.reduceLT, Nat.reduceAdd, Nat.reduceSub, Nat.reduceMul, Nat.reduceLeDiff, Int.reduceLE, Int.toNat_natCast, Int.natCast_nonneg, List.getElem?_map, List.length_map, Nat.zero_add, eq_self, Bool.not_true, Bool.not_false, hw5]
    obtain ⟨fa, fb⟩ := fin _ rfl
    refine gif_split (fun h => ?_) (fun h => ?_)
    · have h' := fa (of_decide_eq_true h)
      simp -dsimp (maxDischargeDepth := 9) only [go_sem, Nat.reduceBEq, Nat.reduceLT, Nat.reduceAdd, Nat.reduceSub, Nat.reduceMul, Nat.reduceLeDiff, Int.reduceLE, Int.toNat_natCast, Int.natCast_nonneg, List.getElem?_map, List.length_map, Nat.zero_add, eq_self, Bool.not_true, Bool.not_false, h]
      refine gif_split (fun h2 => ?_) (fun h2 => ?_)
      · have h3 : n < 0 := of_decide_eq_true h2
        simp -dsimp (maxDischargeDepth := 9) only [go_sem, Nat.reduceBEq, Nat.reduceLT, Nat.reduceAdd, Nat.reduceSub, Nat.reduceMul, Nat.reduceLeDiff, Int.reduceLE, Int.toNat_natCast, Int.natCast_nonneg, List.getElem?_map, List.length_map, Nat.zero_add, eq_self, Bool.not_true, Bool.not_false, h2]
        refine andK_split (by simp only [List.size_toArray, List.length_cons, List.length_nil]; omega) ?_
        simp -dsimp (maxDischargeDepth := 9) only [go_sem, Nat.reduceBEq, Nat.reduceLT, Nat.reduceAdd, Nat.reduceSub, Nat.reduceMul, Nat.reduceLeDiff, Int.reduceLE, Int.toNat_natCast, Int.natCast_nonneg, List.getElem?_map, List.length_map, Nat.zero_add, eq_self, Bool.not_true, Bool.not_false, app_mk]
        refine retW_drop (G := H) (leH_upd hHb hG2) (retW_is ?_)
        have : Lib.itoa n = 45 :: Lib.decDigits n.natAbs := by unfold Lib.itoa; rw [if_pos h3]
        rw [this, h'] at hK
        exact hK
      · have h3 : ¬ n < 0 := of_decide_eq_false h2
        simp -dsimp (maxDischargeDepth := 9) only [go_sem, Nat.reduceBEq, Nat.reduceLT, Nat.reduceAdd, Nat.reduceSub, Nat.reduceMul, Nat.reduceLeDiff, Int.reduceLE, Int.toNat_natCast, Int.natCast_nonneg, List.getElem?_map, List.length_map, Nat.zero_add, eq_self, Bool.not_true, Bool.not_false, h2]
        refine retW_drop (G := H) (leH_upd hHb hG2) (retW_is ?_)
        have : Lib.itoa n = Lib.decDigits n.natAbs := by unfold Lib.itoa; rw [if_neg h3, show n.toNat = n.natAbs by omega]
        rw [this, h'] at hK
        exact hK
    · obtain ⟨h4, h5, h6⟩ := fb (of_decide_eq_false h)
      simp -dsimp (maxDischargeDepth := 9) only [go_sem, Nat.reduceBEq, Nat.reduceLT, Nat.reduceAdd, Nat.reduceSub, Nat.reduceMul, Nat.reduceLeDiff, Int.reduceLE, Int.toNat_natCast, Int.natCast_nonneg, List.getElem?_map, List.length_map, Nat.zero_add, eq_self, Bool.not_true, Bool.not_false, h]
      exact roundQ_next (m.tdiv 10, UInt8.ofNat (48 + m.natAbs % 10) :: s, f - 1) _ ⟨leH_upd hHb hG2, h5, by simp only; omega, by simp only [List.length_cons]; omega, by simp only; omega, h6⟩ (by simp only; omega) (by simp -dsimp (maxDischargeDepth := 9) only [go_sem, Nat.reduceBEq, Nat.reduceLT, Nat.reduceAdd, Nat.reduceSub, Nat.reduceMul, Nat.reduceLeDiff, Int.reduceLE, Int.toNat_natCast, Int.natCast_nonneg, List.getElem?_map, List.length_map, Nat.zero_add, eq_self, Bool.not_true, Bool.not_false]) (.refl _)
end Go.Aug

/- Items, goals, terms and types as data, and their texts; no program. -/
namespace Go.Aug
open Go.Proofs

theorem onSome_of {α : Type} {o : Option α} {K : α → Prop} {l : Lk K} (x : α) (h : o = some x) (hK : K x) : onSome o (hid K l) := by
  rw [h]; exact hK

abbrev Str := List UInt8
abbrev S (l : Str) : D := .str ⟨l.toArray⟩
def InR (n : Int) : Prop := -9223372036854775808 ≤ n ∧ n ≤ 9223372036854775807

inductive Tm where
  | mk (kind : Int) (name : Str) (int : Int) (args : List Tm)
inductive Ty where
  | mk (var : Bool) (name : Str) (args : List Ty)
inductive Gl where
  | mk (kind : Int) (a b : Tm) (name : Str) (args : List Tm) (goals : List Gl)

mutual
def Tm.cs : Tm → List D
  | .mk k n i args => [.int .i64 k, S n, .int .i64 i, .slice (Tm.ds args)]
def Tm.ds : List Tm → List D
  | [] => []
  | t :: l => .agg t.cs :: Tm.ds l
end
def Tm.d (t : Tm) : D := .agg t.cs
mutual
def Ty.cs : Ty → List D
  | .mk v n args => [.bool v, S n, .slice (Ty.ds args)]
def Ty.ds : List Ty → List D
  | [] => []
  | t :: l => .agg t.cs :: Ty.ds l
end
def Ty.d (t : Ty) : D := .agg t.cs
mutual
def Gl.cs : Gl → List D
  | .mk k a b n args gs => .int .i64 k :: (a.cs ++ (b.cs ++ [S n, .slice (Tm.ds args), .slice (Gl.ds gs)]))
def Gl.ds : List Gl → List D
  | [] => []
  | t :: l => .agg t.cs :: Gl.ds l
end
def Gl.d (t : Gl) : D := .agg t.cs

theorem Tm.ds_map : ∀ l : List Tm, Tm.ds l = l.map Tm.d
  | [] => rfl
  | t :: l => by rw [Tm.ds, Tm.ds_map l]; rfl
theorem Ty.ds_map : ∀ l : List Ty, Ty.ds l = l.map Ty.d
  | [] => rfl
  | t :: l => by rw [Ty.ds, Ty.ds_map l]; rfl
theorem Gl.ds_map : ∀ l : List Gl, Gl.ds l = l.map Gl.d
  | [] => rfl
  | t :: l => by rw [Gl.ds, Gl.ds_map l]; rfl

structure Ct where
  name : Str
  args : List Ty
def Ct.cs (c : Ct) : List D := [S c.name, .slice (Ty.ds c.args)]
def Ct.d (c : Ct) : D := .agg c.cs
structure It where
  kind : Int
  name : Str
  vars : List Str
  ctors : List Ct
  types : List Ty
  ins : List Bool
  det : Int
  args : List Tm
  body : Gl
def It.cs (i : It) : List D := .int .i64 i.kind :: S i.name :: .slice (i.vars.map S) :: .slice (i.ctors.map Ct.d) :: .slice (Ty.ds i.types) :: .slice (i.ins.map .bool) :: .int .i64 i.det :: .slice (Tm.ds i.args) :: i.body.cs
def It.d (i : It) : D := .agg i.cs

/- Texts. -/
def rowT (ws : List Str) : Str := match ws with
  | [] => []
  | w :: l => 40 :: (Lib.join (w :: l) [44, 32] ++ [41])
mutual
def Tm.t : Tm → Str
  | .mk k n i args => (if k = 2 then Lib.itoa i else n) ++ rowT (Tm.ts args)
def Tm.ts : List Tm → List Str
  | [] => []
  | t :: l => t.t :: Tm.ts l
end
mutual
def Ty.t : Ty → Str
  | .mk _ n args => n ++ rowT (Ty.ts args)
def Ty.ts : List Ty → List Str
  | [] => []
  | t :: l => t.t :: Ty.ts l
end
def Gl.kind : Gl → Int
  | .mk k .. => k
def loose (kind k : Int) : Bool := k == 6 || k == 5 && kind != 6
def brT (b : Bool) (s : Str) : Str := if b then 40 :: (s ++ [41]) else s
mutual
def Gl.t : Gl → Str
  | .mk k a b n args gs =>
    if k = 1 then [116, 114, 117, 101] else if k = 2 then [102, 97, 105, 108] else if k = 3 then a.t ++ [32, 61, 32] ++ b.t else if k = 4 then n ++ rowT (Tm.ts args)
    else if k = 5 then Lib.join (Gl.ws k gs) [44, 32] else if k = 6 then Lib.join (Gl.ws k gs) [32, 59, 32]
    else if k = 7 then [110, 111, 116, 32] ++ (Gl.ws k gs).getD 0 [] else if k = 8 then [116, 104, 114, 111, 119, 32] ++ a.t
    else if k = 9 then [116, 114, 121, 32] ++ (Gl.ws k gs).getD 0 [] ++ [32, 99, 97, 116, 99, 104, 32] ++ n ++ [32, 116, 104, 101, 110, 32] ++ (Gl.ws k gs).getD 1 [] else []
def Gl.ws : Int → List Gl → List Str
  | _, [] => []
  | k, g :: gs => brT (loose k g.kind) g.t :: Gl.ws k gs
end
theorem Tm.ts_map : ∀ l : List Tm, Tm.ts l = l.map Tm.t
  | [] => rfl
  | t :: l => by rw [Tm.ts, Tm.ts_map l]; rfl
theorem Ty.ts_map : ∀ l : List Ty, Ty.ts l = l.map Ty.t
  | [] => rfl
  | t :: l => by rw [Ty.ts, Ty.ts_map l]; rfl
def Gl.w (k : Int) (g : Gl) : Str := brT (loose k g.kind) g.t
theorem Gl.ws_map (k : Int) : ∀ l : List Gl, Gl.ws k l = l.map (Gl.w k)
  | [] => rfl
  | t :: l => by rw [Gl.ws, Gl.ws_map k l]; rfl
def detT (n : Int) : Str := if n = 1 then [100, 101, 116] else if n = 2 then [115, 101, 109, 105, 100, 101, 116] else if n = 3 then [109, 117, 108, 116, 105] else if n = 4 then [110, 111, 110, 100, 101, 116] else []
def wayT (b : Bool) : Str := if b then [105, 110] else [111, 117, 116]
def Ct.t (c : Ct) : Str := c.name ++ rowT (Ty.ts c.args)
def ctorsT (l : List Ct) : Str := Lib.join (l.map Ct.t) [32, 124, 32]
def It.t0 (i : It) : Str :=
  if i.kind = 1 then [116, 121, 112, 101, 32] ++ i.name ++ rowT i.vars ++ [32, 61, 32] ++ ctorsT i.ctors
  else if i.kind = 2 then [112, 114, 101, 100, 32] ++ i.name ++ rowT (Ty.ts i.types)
  else if i.kind = 3 then [109, 111, 100, 101, 32] ++ i.name ++ rowT (i.ins.map wayT) ++ [32, 105, 115, 32] ++ detT i.det
  else if i.kind = 4 then i.name ++ rowT (Tm.ts i.args) ++ (if i.body.kind = 1 then [] else [32, 58, 45, 32] ++ i.body.t)
  else []
def It.t (i : It) : Str := i.t0 ++ [46, 10]

/- Numbers in their range. -/
mutual
def Tm.ok : Tm → Prop
  | .mk k _ i args => InR k ∧ InR i ∧ Tm.oks args
def Tm.oks : List Tm → Prop
  | [] => True
  | t :: l => t.ok ∧ Tm.oks l
end
mutual
def Gl.ok : Gl → Prop
  | .mk k a b _ args gs => InR k ∧ a.ok ∧ b.ok ∧ Tm.oks args ∧ Gl.oks gs
def Gl.oks : List Gl → Prop
  | [] => True
  | t :: l => t.ok ∧ Gl.oks l
end
theorem Tm.oks_mem : ∀ {l : List Tm}, Tm.oks l → ∀ t ∈ l, t.ok
  | t :: l, h, x, hx => by
    rcases List.mem_cons.1 hx with rfl | hx
    · exact h.1
    · exact Tm.oks_mem h.2 x hx
theorem Gl.oks_mem : ∀ {l : List Gl}, Gl.oks l → ∀ t ∈ l, t.ok
  | t :: l, h, x, hx => by
    rcases List.mem_cons.1 hx with rfl | hx
    · exact h.1
    · exact Gl.oks_mem h.2 x hx

/- Lengths. -/
def tot (ws : List Str) : Nat := (ws.map fun w => w.length + 4).sum
theorem join_len (ws : List Str) (sep : Str) (hs : sep.length ≤ 4) : (Lib.join ws sep).length ≤ tot ws := by
  cases ws with
  | nil => simp [Lib.join_nil, tot]
  | cons x r =>
    have := Lib.join_length x r sep
    rw [this]
    have h2 : ∀ r : List Str, sep.length * r.length + Lib.lens r ≤ tot r := by
      intro r
      induction r with
      | nil => simp [Lib.lens, tot]
      | cons y r ih =>
        simp only [tot, List.map_cons, List.sum_cons, Lib.lens, List.length_cons, Nat.mul_add] at ih ⊢
        omega
    have := h2 r
    simp only [tot, List.map_cons, List.sum_cons, Lib.lens] at this ⊢
    omega
theorem rowT_len (ws : List Str) : (rowT ws).length ≤ tot ws + 2 := by
  cases ws with
  | nil => simp [rowT]
  | cons w l =>
    have := join_len (w :: l) [44, 32] (by decide)
    simp only [rowT, List.length_cons, List.length_append, List.length_nil]
    omega
theorem tot_mem {ws : List Str} {w : Str} (h : w ∈ ws) : w.length + 4 ≤ tot ws := by
  induction ws with
  | nil => cases h
  | cons x l ih =>
    simp only [tot, List.map_cons, List.sum_cons] at ih ⊢
    rcases List.mem_cons.1 h with rfl | h
    · omega
    · have := ih h; omega
theorem size_mk' (a : Str) : ByteArray.size ⟨a.toArray⟩ = a.length := by simp [ByteArray.size]
theorem size_S (l : Str) : (S l).size = l.length + 1 := by simp [D.size, ByteArray.size]

theorem nd_le : ∀ (k u : Nat), u < 10 ^ (k + 1) → Lib.nDigits u ≤ k + 1
  | 0, u, h => by rw [Lib.nDigits_small (by simpa using h)]; exact Nat.le_refl _
  | k + 1, u, h => by
    by_cases hu : u < 10
    · rw [Lib.nDigits_small hu]; omega
    · rw [Lib.nDigits_big hu]
      have := nd_le k (u / 10) (by rw [Nat.pow_succ] at h; omega)
      omega
theorem itoa_len {n : Int} (h : InR n) : (Lib.itoa n).length ≤ 20 := by
  unfold InR at h
  unfold Lib.itoa
  split
  · simp only [List.length_cons, Lib.decDigits_length]
    have := nd_le 18 n.natAbs (by omega)
    omega
  · rw [Lib.decDigits_length]
    have := nd_le 18 n.toNat (by omega)
    omega
theorem take_snoc {α : Type} {l : List α} {k : Nat} {x : α} (h : l[k]? = some x) : l.take (k + 1) = l.take k ++ [x] := by
  rw [List.take_add_one, h]; rfl
mutual
theorem Tm.len : ∀ t : Tm, t.ok → t.t.length + 8 ≤ 24 * D.sizes t.cs
  | .mk k n i args, h => by
    have ha := Tm.lens args h.2.2
    have hr := rowT_len (Tm.ts args)
    have hi := h.2.1
    have hn : (if k = 2 then Lib.itoa i else n).length ≤ n.length + 20 := by
      split
      · have := itoa_len hi; omega
      · omega
    simp only [Tm.t, Tm.cs, D.sizes, D.size, size_mk', List.length_append] at *
    omega
theorem Tm.lens : ∀ l : List Tm, Tm.oks l → tot (Tm.ts l) ≤ 24 * D.sizes (Tm.ds l)
  | [], _ => by simp [Tm.ts, tot]
  | t :: l, h => by
    have h1 := Tm.len t h.1
    have h2 := Tm.lens l h.2
    simp only [Tm.ts, tot, List.map_cons, List.sum_cons, Tm.ds, D.sizes, D.size] at h2 ⊢
    omega
end
mutual
theorem Ty.len : ∀ t : Ty, t.t.length + 8 ≤ 24 * D.sizes t.cs
  | .mk v n args => by
    have ha := Ty.lens args
    have hr := rowT_len (Ty.ts args)
    simp only [Ty.t, Ty.cs, D.sizes, D.size, size_mk', List.length_append] at *
    omega
theorem Ty.lens : ∀ l : List Ty, tot (Ty.ts l) ≤ 24 * D.sizes (Ty.ds l)
  | [] => by simp [Ty.ts, tot]
  | t :: l => by
    have h1 := Ty.len t
    have h2 := Ty.lens l
    simp only [Ty.ts, tot, List.map_cons, List.sum_cons, Ty.ds, D.sizes, D.size] at h2 ⊢
    omega
end
theorem getD_len (ws : List Str) (i : Nat) : (ws.getD i []).length ≤ tot ws := by
  by_cases h : i < ws.length
  · have : ws.getD i [] = ws[i] := by simp [List.getD, h]
    rw [this]
    have := tot_mem (List.getElem_mem h)
    omega
  · simp [List.getD, h]
theorem getD2_len (ws : List Str) : (ws.getD 0 []).length + (ws.getD 1 []).length ≤ tot ws := by
  match ws with
  | [] => simp [tot]
  | [x] => simp [tot]
  | x :: y :: l => simp [tot]; omega
theorem brT_len (b : Bool) (s : Str) : (brT b s).length ≤ s.length + 2 := by
  unfold brT; split <;> simp
mutual
theorem Gl.len : ∀ g : Gl, g.ok → g.t.length + 8 ≤ 60 * D.sizes g.cs
  | .mk k a b n args gs, h => by
    have ha := a.len h.2.1
    have hb := b.len h.2.2.1
    have hr := rowT_len (Tm.ts args)
    have hl := Tm.lens args h.2.2.2.1
    have hg := Gl.lens gs h.2.2.2.2 k
    have g0 := getD_len (Gl.ws k gs) 0
    have g1 := getD2_len (Gl.ws k gs)
    have j1 := join_len (Gl.ws k gs) [44, 32] (by decide)
    have j2 := join_len (Gl.ws k gs) [32, 59, 32] (by decide)
    have e : D.sizes (Gl.cs (.mk k a b n args gs)) = 1 + (D.sizes a.cs + (D.sizes b.cs + (n.length + 1 + (D.sizes (Tm.ds args) + 1 + (D.sizes (Gl.ds gs) + 1))))) := by
      simp only [Gl.cs, D.sizes, D.sizes_append, D.size, size_mk']
    rw [e]
    unfold Gl.t
    repeat' split
    all_goals first
      | ((try simp only [List.length_append, List.length_cons, List.length_nil]); omega)
      | (subst_vars; (try simp only [List.length_append, List.length_cons, List.length_nil]); omega)
theorem Gl.lens : ∀ l : List Gl, Gl.oks l → ∀ k, tot (Gl.ws k l) ≤ 60 * D.sizes (Gl.ds l)
  | [], _, k => by simp [Gl.ws, tot]
  | t :: l, h, k => by
    have h1 := Gl.len t h.1
    have h2 := Gl.lens l h.2 k
    have h3 := brT_len (loose k t.kind) t.t
    simp only [Gl.ws, tot, List.map_cons, List.sum_cons, Gl.ds, D.sizes, D.size] at h2 ⊢
    omega
end
theorem Ct.lens : ∀ l : List Ct, tot (l.map Ct.t) ≤ 24 * D.sizes (l.map Ct.d)
  | [] => by simp [tot]
  | c :: l => by
    have h := Ct.lens l
    have h1 := Ty.lens c.args
    have h2 := rowT_len (Ty.ts c.args)
    simp only [tot, List.map_cons, List.sum_cons, D.sizes, Ct.d, Ct.cs, Ct.t, D.size, size_mk', List.length_append] at h ⊢
    omega
theorem strs_tot : ∀ l : List Str, tot l ≤ 24 * D.sizes (l.map S)
  | [] => by simp [tot]
  | c :: l => by
    have h := strs_tot l
    simp only [tot, List.map_cons, List.sum_cons, D.sizes, D.size, size_mk'] at h ⊢
    omega
theorem ways_tot : ∀ l : List Bool, tot (l.map wayT) ≤ 24 * D.sizes (l.map D.bool)
  | [] => by simp [tot]
  | c :: l => by
    have h := ways_tot l
    have : (wayT c).length ≤ 3 := by cases c <;> decide
    simp only [tot, List.map_cons, List.sum_cons, D.sizes, D.size] at h ⊢
    omega
theorem detT_len (n : Int) : (detT n).length ≤ 8 := by
  unfold detT
  repeat' split
  all_goals decide
/-- The numbers of an item that are printed. -/
def It.ok (i : It) : Prop := Tm.oks i.args ∧ i.body.ok
theorem It.len (i : It) (h : i.ok) : i.t.length ≤ 60 * D.sizes i.cs + 60 := by
  have hvt := strs_tot i.vars
  have hvr := rowT_len i.vars
  have hit := ways_tot i.ins
  have hir := rowT_len (i.ins.map wayT)
  have htt := Ty.lens i.types
  have htr := rowT_len (Ty.ts i.types)
  have hat := Tm.lens i.args h.1
  have har := rowT_len (Tm.ts i.args)
  have hct := Ct.lens i.ctors
  have hcj := join_len (i.ctors.map Ct.t) [32, 124, 32] (by decide)
  have hdl := detT_len i.det
  have hgl := Gl.len i.body h.2
  simp only [It.cs, D.sizes, D.size, size_mk', It.t, List.length_append]
  unfold It.t0 ctorsT
  split
  · simp only [List.length_append, List.length_cons, List.length_nil]; omega
  · split
    · simp only [List.length_append, List.length_cons, List.length_nil]; omega
    · split
      · simp only [List.length_append, List.length_cons, List.length_nil]; omega
      · split
        · split
          · simp only [List.length_append, List.length_cons, List.length_nil]; omega
          · simp only [List.length_append, List.length_cons, List.length_nil]; omega
        · simp only [List.length_nil, List.length_cons]; omega
end Go.Aug

/- print.args and the forms of terms and types. -/
namespace Go.Aug
open Go.Proofs
set_option maxRecDepth 100000
set_option linter.unusedSimpArgs false
attribute [local irreducible] hid andK letA onSome onVar onArr arrOnly onInt onBool onFunc onTup idxA ldV ldD addO ofPart appTo fillL slA srcK nilQ retW gif sgd sguard svc sops sdops sagain aopO aLoad aStore aBin aUn aConv aLen aIndexAddr aIndex aIndexAddrS aIndexS aSlice aAppend aBuild aBuildSlice aMakeSlice aField aFieldOf aCallOp deepK deepL frzM putE newK newV growV ACall roundQ thenQ inBlockQ sret cnd szs nilC onMap onRow aLookup aMapUpdate aMakeMap
variable {eb : Nat → Addr} {mm : Nat → Option Obj}

def wsK {α : Type} (f : α → Str) (l : List α) (k : Nat) : List D := ((l.take k).map fun t => S (f t)) ++ List.replicate (l.length - k) (S [])
theorem wsK_len {α : Type} (f : α → Str) (l : List α) (k : Nat) (h : k ≤ l.length) : (wsK f l k).length = l.length := by
  simp [wsK]; omega
theorem wsK_at {α : Type} (f : α → Str) (l : List α) (k : Nat) (h : k < l.length) : (wsK f l k)[k]? = some (S []) := by
  unfold wsK
  rw [List.getElem?_append_right (by simp; omega)]
  have e : k - ((l.take k).map fun t => S (f t)).length = 0 := by simp; omega
  rw [e, List.getElem?_replicate, if_pos (by omega)]
theorem rowT_ne {ws : List Str} (h : ws ≠ []) : rowT ws = 40 :: (Lib.join ws [44, 32] ++ [41]) := by
  cases ws with
  | nil => exact (h rfl).elim
  | cons => rfl
theorem leH_set {G G2 : Heap} {b : Nat} {o0 o : AObj} (h : LeH (upd G b o0) G2) : LeH (upd G b o) (upd G2 b o) := by
  intro k x hk
  by_cases e : k = b
  · subst e; rw [upd_same] at hk ⊢; exact hk
  · rw [upd_ne _ _ e] at hk ⊢
    exact h k x (by rw [upd_ne _ _ e]; exact hk)
theorem wsK_set {α : Type} (f : α → Str) (l : List α) (k : Nat) (x : α) (h : l[k]? = some x) : (wsK f l k).set k (S (f x)) = wsK f l (k + 1) := by
  obtain ⟨hk, rfl⟩ := List.getElem?_eq_some_iff.1 h
  unfold wsK
  rw [take_snoc h, List.map_append]
  have e : l.length - k = (l.length - (k + 1)) + 1 := by omega
  rw [e, List.replicate_succ, List.set_append_right _ _ (by simp; omega)]
  simp [Nat.min_eq_left (Nat.le_of_lt hk)]
theorem wsK_full {α : Type} (f : α → Str) (l : List α) : wsK f l l.length = (l.map f).map S := by
  simp [wsK]
theorem wsK_zero {α : Type} (f : α → Str) (l : List α) : wsK f l 0 = List.replicate l.length (S []) := by
  simp [wsK]

theorem args30_ok (H : Heap) (l : List Tm) (hl : l.length ≤ 1048576) (ht : tot (l.map Tm.t) ≤ 268435456)
    (ih : ∀ t ∈ l, ∀ (G : Heap) (K : A → Heap → Prop), K (.d (S t.t)) G → ACall Tryz.prog (seatZ eb mm) 11 [.d t.d] G K)
    (K : A → Heap → Prop) (hK : K (.d (S (rowT (l.map Tm.t)))) H) : ACall Tryz.prog (seatZ eb mm) 30 [.d (.slice (l.map Tm.d)), .func 11 []] H K := by
  refine ACall.by mixed fn30 (by simp) ?_
  conv in s30 => cbv
  refine svc_start ?_
  simp -dsimp (maxDischargeDepth := 9) only [go_sem, Nat.reduceBEq, Nat.reduceLT, Nat.reduceAdd, Nat.reduceSub, Nat.reduceMul, Nat.reduceLeDiff, Int.reduceLE, Int.toNat_natCast, Int.natCast_nonneg, List.getElem?_map, List.length_map, Nat.zero_add, eq_self, Bool.not_true, Bool.not_false]
  refine gif_split (fun h => ?_) (fun h => ?_)
  · have h0 : l = [] := by have := of_decide_eq_true h; exact List.length_eq_zero_iff.1 (by omega)
    subst h0
    simp -dsimp (maxDischargeDepth := 9) only [go_sem, Nat.reduceBEq, Nat.reduceLT, Nat.reduceAdd, Nat.reduceSub, Nat.reduceMul, Nat.reduceLeDiff, Int.reduceLE, Int.toNat_natCast, Int.natCast_nonneg, List.getElem?_map, List.length_map, Nat.zero_add, eq_self, Bool.not_true, Bool.not_false, h]
    exact retW_is hK
  · have h0 : l.length ≠ 0 := by intro e; have := of_decide_eq_false h; omega
    simp -dsimp (maxDischargeDepth := 9) only [go_sem, Nat.reduceBEq, Nat.reduceLT, Nat.reduceAdd, Nat.reduceSub, Nat.reduceMul, Nat.reduceLeDiff, Int.reduceLE, Int.toNat_natCast, Int.natCast_nonneg, List.getElem?_map, List.length_map, Nat.zero_add, eq_self, Bool.not_true, Bool.not_false, h]
    refine andK_split (by omega) ?_
    simp -dsimp (maxDischargeDepth := 9) only [go_sem, Nat.reduceBEq, Nat.reduceLT, Nat.reduceAdd, Nat.reduceSub, Nat.reduceMul, Nat.reduceLeDiff, Int.reduceLE, Int.toNat_natCast, Int.natCast_nonneg, List.getElem?_map, List.length_map, Nat.zero_add, eq_self, Bool.not_true, Bool.not_false]
    refine newV_intro (fun b v hb hn hm hv => ?_)
    simp -dsimp (maxDischargeDepth := 9) only [go_sem, Nat.reduceBEq, Nat.reduceLT, Nat.reduceAdd, Nat.reduceSub, Nat.reduceMul, Nat.reduceLeDiff, Int.reduceLE, Int.toNat_natCast, Int.natCast_nonneg, List.getElem?_map, List.length_map, Nat.zero_add, eq_self, Bool.not_true, Bool.not_false, hn, hm]
    refine svc_loop (X := Nat) (fun k => [(1, .func 11 []), (5, .own b v), (14, .d (.slice (l.map Tm.d))), (15, .d (.int .i64 l.length)), (16, .d (.int .i64 k))])
      (fun k G => k ≤ l.length ∧ LeH (upd H b (.arr 9 1 v (wsK Tm.t l k))) G) (fun k => l.length - k) 0 _ ⟨by omega, .refl _⟩ (by simp -dsimp (maxDischargeDepth := 9) only [go_sem, Nat.reduceBEq, Nat.reduceLT, Nat.reduceAdd, Nat.reduceSub, Nat.reduceMul, Nat.reduceLeDiff, Int.reduceLE, Int.toNat_natCast, Int.natCast_nonneg, List.getElem?_map, List.length_map, Nat.zero_add, eq_self, Bool.not_true, Bool.not_false]; simp) (by rw [wsK_zero]; exact .refl _) ?_
    rintro k G ⟨hk, gle⟩
    have gb : G b = some (.arr 9 1 v (wsK Tm.t l k)) := gle b _ (upd_same ..)
    simp -dsimp (maxDischargeDepth := 9) only [go_sem, Nat.reduceBEq, Nat.reduceLT, Nat.reduceAdd, Nat.reduceSub, Nat.reduceMul, Nat.reduceLeDiff, Int.reduceLE, Int.toNat_natCast, Int.natCast_nonneg, List.getElem?_map, List.length_map, Nat.zero_add, eq_self, Bool.not_true, Bool.not_false]
    refine gif_split (fun h2 => ?_) (fun h2 => ?_)
    · have hkl : k < l.length := by have := of_decide_eq_true h2; omega
      obtain ⟨x, hx⟩ : ∃ x, l[k]? = some x := ⟨l[k], List.getElem?_eq_getElem hkl⟩
      have hw : IntKind.i64.wrap ((k : Int) + 1) = ((k + 1 : Nat) : Int) := by rw [wrap_in (by omega) (by omega)]; omega
      have hm : x ∈ l := List.mem_of_getElem? hx
      obtain ⟨xk, xn, xi, xa⟩ := x
      simp -dsimp (maxDischargeDepth := 9) only [go_sem, Nat.reduceBEq, Nat.reduceLT, Nat.reduceAdd, Nat.reduceSub, Nat.reduceMul, Nat.reduceLeDiff, Int.reduceLE, Int.toNat_natCast, Int.natCast_nonneg, List.getElem?_map, List.length_map, Nat.zero_add, eq_self, Bool.not_true, Bool.not_false, h2, hx]
      refine andK_split rfl ?_
      simp -dsimp (maxDischargeDepth := 9) only [go_sem, Nat.reduceBEq, Nat.reduceLT, Nat.reduceAdd, Nat.reduceSub, Nat.reduceMul, Nat.reduceLeDiff, Int.reduceLE, Int.toNat_natCast, Int.natCast_nonneg, List.getElem?_map, List.length_map, Nat.zero_add, eq_self, Bool.not_true, Bool.not_false, Tm.d, Tm.cs, D.cells]
      refine newK_intro (fun b7 hb7 hn7 hm7 => ?_)
      simp -dsimp (maxDischargeDepth := 9) only [go_sem, Nat.reduceBEq, Nat.reduceLT, Nat.reduceAdd, Nat.reduceSub, Nat.reduceMul, Nat.reduceLeDiff, Int.reduceLE, Int.toNat_natCast, Int.natCast_nonneg, List.getElem?_map, List.length_map, Nat.zero_add, eq_self, Bool.not_true, Bool.not_false]
      refine ih (.mk xk xn xi xa) hm _ _ ?_
      have h7 : b ≠ b7 := by rintro rfl; rw [gb] at hb7; cases hb7
      have e7 : eqn b b7 = false := hn7 b (by rw [gb]; rfl)
      simp -dsimp (maxDischargeDepth := 9) only [go_sem, Nat.reduceBEq, Nat.reduceLT, Nat.reduceAdd, Nat.reduceSub, Nat.reduceMul, Nat.reduceLeDiff, Int.reduceLE, Int.toNat_natCast, Int.natCast_nonneg, List.getElem?_map, List.length_map, Nat.zero_add, eq_self, Bool.not_true, Bool.not_false, e7, gb, wsK_len Tm.t l k hk]
      refine andK_split (by omega) ?_
      simp -dsimp (maxDischargeDepth := 9) only [go_sem, Nat.reduceBEq, Nat.reduceLT, Nat.reduceAdd, Nat.reduceSub, Nat.reduceMul, Nat.reduceLeDiff, Int.reduceLE, Int.toNat_natCast, Int.natCast_nonneg, List.getElem?_map, List.length_map, Nat.zero_add, eq_self, Bool.not_true, Bool.not_false, e7, gb, wsK_at Tm.t l k hkl, D.cells, hw]
      refine roundQ_next (k + 1) (upd H b (.arr 9 1 v (wsK Tm.t l (k + 1)))) ⟨by omega, .refl _⟩ (by omega) (by simp -dsimp (maxDischargeDepth := 9) only [go_sem, Nat.reduceBEq, Nat.reduceLT, Nat.reduceAdd, Nat.reduceSub, Nat.reduceMul, Nat.reduceLeDiff, Int.reduceLE, Int.toNat_natCast, Int.natCast_nonneg, List.getElem?_map, List.length_map, Nat.zero_add, eq_self, Bool.not_true, Bool.not_false]) ?_
      rw [← wsK_set Tm.t l k _ hx]
      exact leH_set (gle.trans (by repeat first | exact .refl _ | refine leH_upd hb7 ?_))
    · have hkl : k = l.length := by have := of_decide_eq_false h2; omega
      subst hkl
      simp -dsimp (maxDischargeDepth := 9) only [go_sem, Nat.reduceBEq, Nat.reduceLT, Nat.reduceAdd, Nat.reduceSub, Nat.reduceMul, Nat.reduceLeDiff, Int.reduceLE, Int.toNat_natCast, Int.natCast_nonneg, List.getElem?_map, List.length_map, Nat.zero_add, eq_self, Bool.not_true, Bool.not_false, h2]
      rw [wsK_full] at gb
      have gl : LeH H G := fun x o hx => gle x o (leH_upd hb (.refl H) x o hx)
      have hj := join_len (l.map Tm.t) [44, 32] (by decide)
      refine ACall.frz [true, false] ?_
      simp -dsimp (maxDischargeDepth := 9) only [go_sem, Nat.reduceBEq, Nat.reduceLT, Nat.reduceAdd, Nat.reduceSub, Nat.reduceMul, Nat.reduceLeDiff, Int.reduceLE, Int.toNat_natCast, Int.natCast_nonneg, List.getElem?_map, List.length_map, Nat.zero_add, eq_self, Bool.not_true, Bool.not_false, gb]
      rw [show (l.map Tm.t).map S = ((l.map Tm.t).map fun s => (⟨s.toArray⟩ : ByteArray)).map .str by simp]
      have hmap : ((l.map Tm.t).map fun s => (⟨s.toArray⟩ : ByteArray)).map (fun x => x.data.toList) = l.map Tm.t := by simp
      refine join_ok _ _ (by simp only [List.length_map]; omega) (by rw [hmap]; show (Lib.join (l.map Tm.t) [44, 32]).length ≤ _; omega) ?_
      rw [hmap]
      simp -dsimp (maxDischargeDepth := 9) only [go_sem, Nat.reduceBEq, Nat.reduceLT, Nat.reduceAdd, Nat.reduceSub, Nat.reduceMul, Nat.reduceLeDiff, Int.reduceLE, Int.toNat_natCast, Int.natCast_nonneg, List.getElem?_map, List.length_map, Nat.zero_add, eq_self, Bool.not_true, Bool.not_false]
      refine andK_split (by simp only [List.size_toArray, List.length_cons, List.length_nil]; omega) ?_
      simp -dsimp (maxDischargeDepth := 9) only [go_sem, Nat.reduceBEq, Nat.reduceLT, Nat.reduceAdd, Nat.reduceSub, Nat.reduceMul, Nat.reduceLeDiff, Int.reduceLE, Int.toNat_natCast, Int.natCast_nonneg, List.getElem?_map, List.length_map, Nat.zero_add, eq_self, Bool.not_true, Bool.not_false, app_mk]
      refine andK_split (by simp only [List.size_toArray, List.length_cons, List.length_nil, List.length_append]; omega) ?_
      simp -dsimp (maxDischargeDepth := 9) only [go_sem, Nat.reduceBEq, Nat.reduceLT, Nat.reduceAdd, Nat.reduceSub, Nat.reduceMul, Nat.reduceLeDiff, Int.reduceLE, Int.toNat_natCast, Int.natCast_nonneg, List.getElem?_map, List.length_map, Nat.zero_add, eq_self, Bool.not_true, Bool.not_false, app_mk]
      refine retW_drop (G := H) (leH_upd hb gl) (retW_is ?_)
      rw [rowT_ne (by intro e; apply h0; simpa using congrArg List.length e)] at hK
      exact hK
end Go.Aug

/- print.args of types, strings and ways; the forms of terms and types. -/
namespace Go.Aug
open Go.Proofs
set_option maxRecDepth 100000
set_option linter.unusedSimpArgs false
attribute [local irreducible] hid andK letA onSome onVar onArr arrOnly onInt onBool onFunc onTup idxA ldV ldD addO ofPart appTo fillL slA srcK nilQ retW gif sgd sguard svc sops sdops sagain aopO aLoad aStore aBin aUn aConv aLen aIndexAddr aIndex aIndexAddrS aIndexS aSlice aAppend aBuild aBuildSlice aMakeSlice aField aFieldOf aCallOp deepK deepL frzM putE newK newV growV ACall roundQ thenQ inBlockQ sret cnd szs nilC onMap onRow aLookup aMapUpdate aMakeMap
variable {eb : Nat → Addr} {mm : Nat → Option Obj}

theorem callable24 : callable Tryz.prog 24 = true := by kernel_rfl
theorem callable28 : callable Tryz.prog 28 = true := by kernel_rfl

theorem args26_ok (H : Heap) (l : List Ty) (hl : l.length ≤ 1048576) (ht : tot (l.map Ty.t) ≤ 268435456)
    (ih : ∀ t ∈ l, ∀ (G : Heap) (K : A → Heap → Prop), K (.d (S t.t)) G → ACall Tryz.prog (seatZ eb mm) 13 [.d t.d] G K)
    (K : A → Heap → Prop) (hK : K (.d (S (rowT (l.map Ty.t)))) H) : ACall Tryz.prog (seatZ eb mm) 26 [.d (.slice (l.map Ty.d)), .func 13 []] H K := by
  refine ACall.by mixed fn26 (by simp) ?_
  conv in s26 => cbv
  refine svc_start ?_
  simp -dsimp (maxDischargeDepth := 9) only [go_sem, Nat.reduceBEq, Nat.reduceLT, Nat.reduceAdd, Nat.reduceSub, Nat.reduceMul, Nat.reduceLeDiff, Int.reduceLE, Int.toNat_natCast, Int.natCast_nonneg, List.getElem?_map, List.length_map, Nat.zero_add, eq_self, Bool.not_true, Bool.not_false]
  refine gif_split (fun h => ?_) (fun h => ?_)
  · have h0 : l = [] := by have := of_decide_eq_true h; exact List.length_eq_zero_iff.1 (by omega)
    subst h0
    simp -dsimp (maxDischargeDepth := 9) only [go_sem, Nat.reduceBEq, Nat.reduceLT, Nat.reduceAdd, Nat.reduceSub, Nat.reduceMul, Nat.reduceLeDiff, Int.reduceLE, Int.toNat_natCast, Int.natCast_nonneg, List.getElem?_map, List.length_map, Nat.zero_add, eq_self, Bool.not_true, Bool.not_false, h]
    exact retW_is hK
  · have h0 : l.length ≠ 0 := by intro e; have := of_decide_eq_false h; omega
    simp -dsimp (maxDischargeDepth := 9) only [go_sem, Nat.reduceBEq, Nat.reduceLT, Nat.reduceAdd, Nat.reduceSub, Nat.reduceMul, Nat.reduceLeDiff, Int.reduceLE, Int.toNat_natCast, Int.natCast_nonneg, List.getElem?_map, List.length_map, Nat.zero_add, eq_self, Bool.not_true, Bool.not_false, h]
    refine andK_split (by omega) ?_
    simp -dsimp (maxDischargeDepth := 9) only [go_sem, Nat.reduceBEq, Nat.reduceLT, Nat.reduceAdd, Nat.reduceSub, Nat.reduceMul, Nat.reduceLeDiff, Int.reduceLE, Int.toNat_natCast, Int.natCast_nonneg, List.getElem?_map, List.length_map, Nat.zero_add, eq_self, Bool.not_true, Bool.not_false]
    refine newV_intro (fun b v hb hn hm hv => ?_)
    simp -dsimp (maxDischargeDepth := 9) only [go_sem, Nat.reduceBEq, Nat.reduceLT, Nat.reduceAdd, Nat.reduceSub, Nat.reduceMul, Nat.reduceLeDiff, Int.reduceLE, Int.toNat_natCast, Int.natCast_nonneg, List.getElem?_map, List.length_map, Nat.zero_add, eq_self, Bool.not_true, Bool.not_false, hn, hm]
    refine svc_loop (X := Nat) (fun k => [(1, .func 13 []), (5, .own b v), (14, .d (.slice (l.map Ty.d))), (15, .d (.int .i64 l.length)), (16, .d (.int .i64 k))])
      (fun k G => k ≤ l.length ∧ LeH (upd H b (.arr 9 1 v (wsK Ty.t l k))) G) (fun k => l.length - k) 0 _ ⟨by omega, .refl _⟩ (by simp -dsimp (maxDischargeDepth := 9) only [go_sem, Nat.reduceBEq, Nat.reduceLT, Nat.reduceAdd, Nat.reduceSub, Nat.reduceMul, Nat.reduceLeDiff, Int.reduceLE, Int.toNat_natCast, Int.natCast_nonneg, List.getElem?_map, List.length_map, Nat.zero_add, eq_self, Bool.not_true, Bool.not_false]; simp) (by rw [wsK_zero]; exact .refl _) ?_
    rintro k G ⟨hk, gle⟩
    have gb : G b = some (.arr 9 1 v (wsK Ty.t l k)) := gle b _ (upd_same ..)
    simp -dsimp (maxDischargeDepth := 9) only [go_sem, Nat.reduceBEq, Nat.reduceLT, Nat.reduceAdd, Nat.reduceSub, Nat.reduceMul, Nat.reduceLeDiff, Int.reduceLE, Int.toNat_natCast, Int.natCast_nonneg, List.getElem?_map, List.length_map, Nat.zero_add, eq_self, Bool.not_true, Bool.not_false]
    refine gif_split (fun h2 => ?_) (fun h2 => ?_)
    · have hkl : k < l.length := by have := of_decide_eq_true h2; omega
      obtain ⟨x, hx⟩ : ∃ x, l[k]? = some x := ⟨l[k], List.getElem?_eq_getElem hkl⟩
      have hw : IntKind.i64.wrap ((k : Int) + 1) = ((k + 1 : Nat) : Int) := by rw [wrap_in (by omega) (by omega)]; omega
      have hm : x ∈ l := List.mem_of_getElem? hx
      obtain ⟨xv, xn, xa⟩ := x
      simp -dsimp (maxDischargeDepth := 9) only [go_sem, Nat.reduceBEq, Nat.reduceLT, Nat.reduceAdd, Nat.reduceSub, Nat.reduceMul, Nat.reduceLeDiff, Int.reduceLE, Int.toNat_natCast, Int.natCast_nonneg, List.getElem?_map, List.length_map, Nat.zero_add, eq_self, Bool.not_true, Bool.not_false, h2, hx]
      refine andK_split rfl ?_
      simp -dsimp (maxDischargeDepth := 9) only [go_sem, Nat.reduceBEq, Nat.reduceLT, Nat.reduceAdd, Nat.reduceSub, Nat.reduceMul, Nat.reduceLeDiff, Int.reduceLE, Int.toNat_natCast, Int.natCast_nonneg, List.getElem?_map, List.length_map, Nat.zero_add, eq_self, Bool.not_true, Bool.not_false, Ty.d, Ty.cs, D.cells]
      refine newK_intro (fun b7 hb7 hn7 hm7 => ?_)
      simp -dsimp (maxDischargeDepth := 9) only [go_sem, Nat.reduceBEq, Nat.reduceLT, Nat.reduceAdd, Nat.reduceSub, Nat.reduceMul, Nat.reduceLeDiff, Int.reduceLE, Int.toNat_natCast, Int.natCast_nonneg, List.getElem?_map, List.length_map, Nat.zero_add, eq_self, Bool.not_true, Bool.not_false]
      refine ih (.mk xv xn xa) hm _ _ ?_
      have h7 : b ≠ b7 := by rintro rfl; rw [gb] at hb7; cases hb7
      have e7 : eqn b b7 = false := hn7 b (by rw [gb]; rfl)
      simp -dsimp (maxDischargeDepth := 9) only [go_sem, Nat.reduceBEq, Nat.reduceLT, Nat.reduceAdd, Nat.reduceSub, Nat.reduceMul, Nat.reduceLeDiff, Int.reduceLE, Int.toNat_natCast, Int.natCast_nonneg, List.getElem?_map, List.length_map, Nat.zero_add, eq_self, Bool.not_true, Bool.not_false, e7, gb, wsK_len Ty.t l k hk]
      refine andK_split (by omega) ?_
      simp -dsimp (maxDischargeDepth := 9) only [go_sem, Nat.reduceBEq, Nat.reduceLT, Nat.reduceAdd, Nat.reduceSub, Nat.reduceMul, Nat.reduceLeDiff, Int.reduceLE, Int.toNat_natCast, Int.natCast_nonneg, List.getElem?_map, List.length_map, Nat.zero_add, eq_self, Bool.not_true, Bool.not_false, e7, gb, wsK_at Ty.t l k hkl, D.cells, hw]
      refine roundQ_next (k + 1) (upd H b (.arr 9 1 v (wsK Ty.t l (k + 1)))) ⟨by omega, .refl _⟩ (by omega) (by simp -dsimp (maxDischargeDepth := 9) only [go_sem, Nat.reduceBEq, Nat.reduceLT, Nat.reduceAdd, Nat.reduceSub, Nat.reduceMul, Nat.reduceLeDiff, Int.reduceLE, Int.toNat_natCast, Int.natCast_nonneg, List.getElem?_map, List.length_map, Nat.zero_add, eq_self, Bool.not_true, Bool.not_false]) ?_
      rw [← wsK_set Ty.t l k _ hx]
      exact leH_set (gle.trans (by repeat first | exact .refl _ | refine leH_upd hb7 ?_))
    · have hkl : k = l.length := by have := of_decide_eq_false h2; omega
      subst hkl
      simp -dsimp (maxDischargeDepth := 9) only [go_sem, Nat.reduceBEq, Nat.reduceLT, Nat.reduceAdd, Nat.reduceSub, Nat.reduceMul, Nat.reduceLeDiff, Int.reduceLE, Int.toNat_natCast, Int.natCast_nonneg, List.getElem?_map, List.length_map, Nat.zero_add, eq_self, Bool.not_true, Bool.not_false, h2]
      rw [wsK_full] at gb
      have gl : LeH H G := fun x o hx => gle x o (leH_upd hb (.refl H) x o hx)
      have hj := join_len (l.map Ty.t) [44, 32] (by decide)
      refine ACall.frz [true, false] ?_
      simp -dsimp (maxDischargeDepth := 9) only [go_sem, Nat.reduceBEq, Nat.reduceLT, Nat.reduceAdd, Nat.reduceSub, Nat.reduceMul, Nat.reduceLeDiff, Int.reduceLE, Int.toNat_natCast, Int.natCast_nonneg, List.getElem?_map, List.length_map, Nat.zero_add, eq_self, Bool.not_true, Bool.not_false, gb]
      rw [show (l.map Ty.t).map S = ((l.map Ty.t).map fun s => (⟨s.toArray⟩ : ByteArray)).map .str by simp]
      have hmap : ((l.map Ty.t).map fun s => (⟨s.toArray⟩ : ByteArray)).map (fun x => x.data.toList) = l.map Ty.t := by simp
      refine join_ok _ _ (by simp only [List.length_map]; omega) (by rw [hmap]; show (Lib.join (l.map Ty.t) [44, 32]).length ≤ _; omega) ?_
      rw [hmap]
      simp -dsimp (maxDischargeDepth := 9) only [go_sem, Nat.reduceBEq, Nat.reduceLT, Nat.reduceAdd, Nat.reduceSub, Nat.reduceMul, Nat.reduceLeDiff, Int.reduceLE, Int.toNat_natCast, Int.natCast_nonneg, List.getElem?_map, List.length_map, Nat.zero_add, eq_self, Bool.not_true, Bool.not_false]
      refine andK_split (by simp only [List.size_toArray, List.length_cons, List.length_nil]; omega) ?_
      simp -dsimp (maxDischargeDepth := 9) only [go_sem, Nat.reduceBEq, Nat.reduceLT, Nat.reduceAdd, Nat.reduceSub, Nat.reduceMul, Nat.reduceLeDiff, Int.reduceLE, Int.toNat_natCast, Int.natCast_nonneg, List.getElem?_map, List.length_map, Nat.zero_add, eq_self, Bool.not_true, Bool.not_false, app_mk]
      refine andK_split (by simp only [List.size_toArray, List.length_cons, List.length_nil, List.length_append]; omega) ?_
      simp -dsimp (maxDischargeDepth := 9) only [go_sem, Nat.reduceBEq, Nat.reduceLT, Nat.reduceAdd, Nat.reduceSub, Nat.reduceMul, Nat.reduceLeDiff, Int.reduceLE, Int.toNat_natCast, Int.natCast_nonneg, List.getElem?_map, List.length_map, Nat.zero_add, eq_self, Bool.not_true, Bool.not_false, app_mk]
      refine retW_drop (G := H) (leH_upd hb gl) (retW_is ?_)
      rw [rowT_ne (by intro e; apply h0; simpa using congrArg List.length e)] at hK
      exact hK
theorem args23_ok (H : Heap) (l : List Str) (hl : l.length ≤ 1048576) (ht : tot (l.map id) ≤ 268435456)
    (ih : ∀ t ∈ l, ∀ (G : Heap) (K : A → Heap → Prop), K (.d (S t)) G → ACall Tryz.prog (seatZ eb mm) 24 [.d (S t)] G K)
    (K : A → Heap → Prop) (hK : K (.d (S (rowT (l.map id)))) H) : ACall Tryz.prog (seatZ eb mm) 23 [.d (.slice (l.map S)), .func 24 []] H K := by
  refine ACall.by mixed fn23 (by simp) ?_
  conv in s23 => cbv
  refine svc_start ?_
  simp -dsimp (maxDischargeDepth := 9) only [go_sem, Nat.reduceBEq, Nat.reduceLT, Nat.reduceAdd, Nat.reduceSub, Nat.reduceMul, Nat.reduceLeDiff, Int.reduceLE, Int.toNat_natCast, Int.natCast_nonneg, List.getElem?_map, List.length_map, Nat.zero_add, eq_self, Bool.not_true, Bool.not_false]
  refine gif_split (fun h => ?_) (fun h => ?_)
  · have h0 : l = [] := by have := of_decide_eq_true h; exact List.length_eq_zero_iff.1 (by omega)
    subst h0
    simp -dsimp (maxDischargeDepth := 9) only [go_sem, Nat.reduceBEq, Nat.reduceLT, Nat.reduceAdd, Nat.reduceSub, Nat.reduceMul, Nat.reduceLeDiff, Int.reduceLE, Int.toNat_natCast, Int.natCast_nonneg, List.getElem?_map, List.length_map, Nat.zero_add, eq_self, Bool.not_true, Bool.not_false, h]
    exact retW_is hK
  · have h0 : l.length ≠ 0 := by intro e; have := of_decide_eq_false h; omega
    simp -dsimp (maxDischargeDepth := 9) only [go_sem, Nat.reduceBEq, Nat.reduceLT, Nat.reduceAdd, Nat.reduceSub, Nat.reduceMul, Nat.reduceLeDiff, Int.reduceLE, Int.toNat_natCast, Int.natCast_nonneg, List.getElem?_map, List.length_map, Nat.zero_add, eq_self, Bool.not_true, Bool.not_false, h]
    refine andK_split (by omega) ?_
    simp -dsimp (maxDischargeDepth := 9) only [go_sem, Nat.reduceBEq, Nat.reduceLT, Nat.reduceAdd, Nat.reduceSub, Nat.reduceMul, Nat.reduceLeDiff, Int.reduceLE, Int.toNat_natCast, Int.natCast_nonneg, List.getElem?_map, List.length_map, Nat.zero_add, eq_self, Bool.not_true, Bool.not_false]
    refine newV_intro (fun b v hb hn hm hv => ?_)
    simp -dsimp (maxDischargeDepth := 9) only [go_sem, Nat.reduceBEq, Nat.reduceLT, Nat.reduceAdd, Nat.reduceSub, Nat.reduceMul, Nat.reduceLeDiff, Int.reduceLE, Int.toNat_natCast, Int.natCast_nonneg, List.getElem?_map, List.length_map, Nat.zero_add, eq_self, Bool.not_true, Bool.not_false, hn, hm]
    refine svc_loop (X := Nat) (fun k => [(1, .func 24 []), (5, .own b v), (14, .d (.slice (l.map S))), (15, .d (.int .i64 l.length)), (16, .d (.int .i64 k))])
      (fun k G => k ≤ l.length ∧ LeH (upd H b (.arr 9 1 v (wsK id l k))) G) (fun k => l.length - k) 0 _ ⟨by omega, .refl _⟩ (by simp -dsimp (maxDischargeDepth := 9) only [go_sem, Nat.reduceBEq, Nat.reduceLT, Nat.reduceAdd, Nat.reduceSub, Nat.reduceMul, Nat.reduceLeDiff, Int.reduceLE, Int.toNat_natCast, Int.natCast_nonneg, List.getElem?_map, List.length_map, Nat.zero_add, eq_self, Bool.not_true, Bool.not_false]; simp) (by rw [wsK_zero]; exact .refl _) ?_
    rintro k G ⟨hk, gle⟩
    have gb : G b = some (.arr 9 1 v (wsK id l k)) := gle b _ (upd_same ..)
    simp -dsimp (maxDischargeDepth := 9) only [go_sem, Nat.reduceBEq, Nat.reduceLT, Nat.reduceAdd, Nat.reduceSub, Nat.reduceMul, Nat.reduceLeDiff, Int.reduceLE, Int.toNat_natCast, Int.natCast_nonneg, List.getElem?_map, List.length_map, Nat.zero_add, eq_self, Bool.not_true, Bool.not_false]
    refine gif_split (fun h2 => ?_) (fun h2 => ?_)
    · have hkl : k < l.length := by have := of_decide_eq_true h2; omega
      obtain ⟨x, hx⟩ : ∃ x, l[k]? = some x := ⟨l[k], List.getElem?_eq_getElem hkl⟩
      have hw : IntKind.i64.wrap ((k : Int) + 1) = ((k + 1 : Nat) : Int) := by rw [wrap_in (by omega) (by omega)]; omega
      have hm : x ∈ l := List.mem_of_getElem? hx
      simp -dsimp (maxDischargeDepth := 9) only [go_sem, Nat.reduceBEq, Nat.reduceLT, Nat.reduceAdd, Nat.reduceSub, Nat.reduceMul, Nat.reduceLeDiff, Int.reduceLE, Int.toNat_natCast, Int.natCast_nonneg, List.getElem?_map, List.length_map, Nat.zero_add, eq_self, Bool.not_true, Bool.not_false, h2, hx, callable24, callable28]
      refine ih x hm _ _ ?_
      simp -dsimp (maxDischargeDepth := 9) only [go_sem, Nat.reduceBEq, Nat.reduceLT, Nat.reduceAdd, Nat.reduceSub, Nat.reduceMul, Nat.reduceLeDiff, Int.reduceLE, Int.toNat_natCast, Int.natCast_nonneg, List.getElem?_map, List.length_map, Nat.zero_add, eq_self, Bool.not_true, Bool.not_false, gb, wsK_len id l k hk]
      refine andK_split (by omega) ?_
      simp -dsimp (maxDischargeDepth := 9) only [go_sem, Nat.reduceBEq, Nat.reduceLT, Nat.reduceAdd, Nat.reduceSub, Nat.reduceMul, Nat.reduceLeDiff, Int.reduceLE, Int.toNat_natCast, Int.natCast_nonneg, List.getElem?_map, List.length_map, Nat.zero_add, eq_self, Bool.not_true, Bool.not_false, gb, wsK_at id l k hkl, D.cells, hw]
      refine roundQ_next (k + 1) (upd H b (.arr 9 1 v (wsK id l (k + 1)))) ⟨by omega, .refl _⟩ (by omega) (by simp -dsimp (maxDischargeDepth := 9) only [go_sem, Nat.reduceBEq, Nat.reduceLT, Nat.reduceAdd, Nat.reduceSub, Nat.reduceMul, Nat.reduceLeDiff, Int.reduceLE, Int.toNat_natCast, Int.natCast_nonneg, List.getElem?_map, List.length_map, Nat.zero_add, eq_self, Bool.not_true, Bool.not_false]) ?_
      rw [← wsK_set id l k _ hx]
      exact leH_set gle
    · have hkl : k = l.length := by have := of_decide_eq_false h2; omega
      subst hkl
      simp -dsimp (maxDischargeDepth := 9) only [go_sem, Nat.reduceBEq, Nat.reduceLT, Nat.reduceAdd, Nat.reduceSub, Nat.reduceMul, Nat.reduceLeDiff, Int.reduceLE, Int.toNat_natCast, Int.natCast_nonneg, List.getElem?_map, List.length_map, Nat.zero_add, eq_self, Bool.not_true, Bool.not_false, h2]
      rw [wsK_full] at gb
      have gl : LeH H G := fun x o hx => gle x o (leH_upd hb (.refl H) x o hx)
      have hj := join_len (l.map id) [44, 32] (by decide)
      refine ACall.frz [true, false] ?_
      simp -dsimp (maxDischargeDepth := 9) only [go_sem, Nat.reduceBEq, Nat.reduceLT, Nat.reduceAdd, Nat.reduceSub, Nat.reduceMul, Nat.reduceLeDiff, Int.reduceLE, Int.toNat_natCast, Int.natCast_nonneg, List.getElem?_map, List.length_map, Nat.zero_add, eq_self, Bool.not_true, Bool.not_false, gb]
      rw [show (l.map id).map S = ((l.map id).map fun s => (⟨s.toArray⟩ : ByteArray)).map .str by simp]
      have hmap : ((l.map id).map fun s => (⟨s.toArray⟩ : ByteArray)).map (fun x => x.data.toList) = l.map id := by simp [Function.comp_def]
      refine join_ok _ _ (by simp only [List.length_map]; omega) (by rw [hmap]; show (Lib.join (l.map id) [44, 32]).length ≤ _; omega) ?_
      rw [hmap]
      simp -dsimp (maxDischargeDepth := 9) only [go_sem, Nat.reduceBEq, Nat.reduceLT, Nat.reduceAdd, Nat.reduceSub, Nat.reduceMul, Nat.reduceLeDiff, Int.reduceLE, Int.toNat_natCast, Int.natCast_nonneg, List.getElem?_map, List.length_map, Nat.zero_add, eq_self, Bool.not_true, Bool.not_false]
      refine andK_split (by simp only [List.size_toArray, List.length_cons, List.length_nil]; omega) ?_
      simp -dsimp (maxDischargeDepth := 9) only [go_sem, Nat.reduceBEq, Nat.reduceLT, Nat.reduceAdd, Nat.reduceSub, Nat.reduceMul, Nat.reduceLeDiff, Int.reduceLE, Int.toNat_natCast, Int.natCast_nonneg, List.getElem?_map, List.length_map, Nat.zero_add, eq_self, Bool.not_true, Bool.not_false, app_mk]
      refine andK_split (by simp only [List.size_toArray, List.length_cons, List.length_nil, List.length_append]; omega) ?_
      simp -dsimp (maxDischargeDepth := 9) only [go_sem, Nat.reduceBEq, Nat.reduceLT, Nat.reduceAdd, Nat.reduceSub, Nat.reduceMul, Nat.reduceLeDiff, Int.reduceLE, Int.toNat_natCast, Int.natCast_nonneg, List.getElem?_map, List.length_map, Nat.zero_add, eq_self, Bool.not_true, Bool.not_false, app_mk]
      refine retW_drop (G := H) (leH_upd hb gl) (retW_is ?_)
      rw [rowT_ne (by intro e; apply h0; simpa using congrArg List.length e)] at hK
      exact hK
theorem args27_ok (H : Heap) (l : List Bool) (hl : l.length ≤ 1048576) (ht : tot (l.map wayT) ≤ 268435456)
    (ih : ∀ t ∈ l, ∀ (G : Heap) (K : A → Heap → Prop), K (.d (S (wayT t))) G → ACall Tryz.prog (seatZ eb mm) 28 [.d (.bool t)] G K)
    (K : A → Heap → Prop) (hK : K (.d (S (rowT (l.map wayT)))) H) : ACall Tryz.prog (seatZ eb mm) 27 [.d (.slice (l.map D.bool)), .func 28 []] H K := by
  refine ACall.by mixed fn27 (by simp) ?_
  conv in s27 => cbv
  refine svc_start ?_
  simp -dsimp (maxDischargeDepth := 9) only [go_sem, Nat.reduceBEq, Nat.reduceLT, Nat.reduceAdd, Nat.reduceSub, Nat.reduceMul, Nat.reduceLeDiff, Int.reduceLE, Int.toNat_natCast, Int.natCast_nonneg, List.getElem?_map, List.length_map, Nat.zero_add, eq_self, Bool.not_true, Bool.not_false]
  refine gif_split (fun h => ?_) (fun h => ?_)
  · have h0 : l = [] := by have := of_decide_eq_true h; exact List.length_eq_zero_iff.1 (by omega)
    subst h0
    simp -dsimp (maxDischargeDepth := 9) only [go_sem, Nat.reduceBEq, Nat.reduceLT, Nat.reduceAdd, Nat.reduceSub, Nat.reduceMul, Nat.reduceLeDiff, Int.reduceLE, Int.toNat_natCast, Int.natCast_nonneg, List.getElem?_map, List.length_map, Nat.zero_add, eq_self, Bool.not_true, Bool.not_false, h]
    exact retW_is hK
  · have h0 : l.length ≠ 0 := by intro e; have := of_decide_eq_false h; omega
    simp -dsimp (maxDischargeDepth := 9) only [go_sem, Nat.reduceBEq, Nat.reduceLT, Nat.reduceAdd, Nat.reduceSub, Nat.reduceMul, Nat.reduceLeDiff, Int.reduceLE, Int.toNat_natCast, Int.natCast_nonneg, List.getElem?_map, List.length_map, Nat.zero_add, eq_self, Bool.not_true, Bool.not_false, h]
    refine andK_split (by omega) ?_
    simp -dsimp (maxDischargeDepth := 9) only [go_sem, Nat.reduceBEq, Nat.reduceLT, Nat.reduceAdd, Nat.reduceSub, Nat.reduceMul, Nat.reduceLeDiff, Int.reduceLE, Int.toNat_natCast, Int.natCast_nonneg, List.getElem?_map, List.length_map, Nat.zero_add, eq_self, Bool.not_true, Bool.not_false]
    refine newV_intro (fun b v hb hn hm hv => ?_)
    simp -dsimp (maxDischargeDepth := 9) only [go_sem, Nat.reduceBEq, Nat.reduceLT, Nat.reduceAdd, Nat.reduceSub, Nat.reduceMul, Nat.reduceLeDiff, Int.reduceLE, Int.toNat_natCast, Int.natCast_nonneg, List.getElem?_map, List.length_map, Nat.zero_add, eq_self, Bool.not_true, Bool.not_false, hn, hm]
    refine svc_loop (X := Nat) (fun k => [(1, .func 28 []), (5, .own b v), (14, .d (.slice (l.map D.bool))), (15, .d (.int .i64 l.length)), (16, .d (.int .i64 k))])
      (fun k G => k ≤ l.length ∧ LeH (upd H b (.arr 9 1 v (wsK wayT l k))) G) (fun k => l.length - k) 0 _ ⟨by omega, .refl _⟩ (by simp -dsimp (maxDischargeDepth := 9) only [go_sem, Nat.reduceBEq, Nat.reduceLT, Nat.reduceAdd, Nat.reduceSub, Nat.reduceMul, Nat.reduceLeDiff, Int.reduceLE, Int.toNat_natCast, Int.natCast_nonneg, List.getElem?_map, List.length_map, Nat.zero_add, eq_self, Bool.not_true, Bool.not_false]; simp) (by rw [wsK_zero]; exact .refl _) ?_
    rintro k G ⟨hk, gle⟩
    have gb : G b = some (.arr 9 1 v (wsK wayT l k)) := gle b _ (upd_same ..)
    simp -dsimp (maxDischargeDepth := 9) only [go_sem, Nat.reduceBEq, Nat.reduceLT, Nat.reduceAdd, Nat.reduceSub, Nat.reduceMul, Nat.reduceLeDiff, Int.reduceLE, Int.toNat_natCast, Int.natCast_nonneg, List.getElem?_map, List.length_map, Nat.zero_add, eq_self, Bool.not_true, Bool.not_false]
    refine gif_split (fun h2 => ?_) (fun h2 => ?_)
    · have hkl : k < l.length := by have := of_decide_eq_true h2; omega
      obtain ⟨x, hx⟩ : ∃ x, l[k]? = some x := ⟨l[k], List.getElem?_eq_getElem hkl⟩
      have hw : IntKind.i64.wrap ((k : Int) + 1) = ((k + 1 : Nat) : Int) := by rw [wrap_in (by omega) (by omega)]; omega
      have hm : x ∈ l := List.mem_of_getElem? hx
      simp -dsimp (maxDischargeDepth := 9) only [go_sem, Nat.reduceBEq, Nat.reduceLT, Nat.reduceAdd, Nat.reduceSub, Nat.reduceMul, Nat.reduceLeDiff, Int.reduceLE, Int.toNat_natCast, Int.natCast_nonneg, List.getElem?_map, List.length_map, Nat.zero_add, eq_self, Bool.not_true, Bool.not_false, h2, hx, callable24, callable28]
      refine ih x hm _ _ ?_
      simp -dsimp (maxDischargeDepth := 9) only [go_sem, Nat.reduceBEq, Nat.reduceLT, Nat.reduceAdd, Nat.reduceSub, Nat.reduceMul, Nat.reduceLeDiff, Int.reduceLE, Int.toNat_natCast, Int.natCast_nonneg, List.getElem?_map, List.length_map, Nat.zero_add, eq_self, Bool.not_true, Bool.not_false, gb, wsK_len wayT l k hk]
      refine andK_split (by omega) ?_
      simp -dsimp (maxDischargeDepth := 9) only [go_sem, Nat.reduceBEq, Nat.reduceLT, Nat.reduceAdd, Nat.reduceSub, Nat.reduceMul, Nat.reduceLeDiff, Int.reduceLE, Int.toNat_natCast, Int.natCast_nonneg, List.getElem?_map, List.length_map, Nat.zero_add, eq_self, Bool.not_true, Bool.not_false, gb, wsK_at wayT l k hkl, D.cells, hw]
      refine roundQ_next (k + 1) (upd H b (.arr 9 1 v (wsK wayT l (k + 1)))) ⟨by omega, .refl _⟩ (by omega) (by simp -dsimp (maxDischargeDepth := 9) only [go_sem, Nat.reduceBEq, Nat.reduceLT, Nat.reduceAdd, Nat.reduceSub, Nat.reduceMul, Nat.reduceLeDiff, Int.reduceLE, Int.toNat_natCast, Int.natCast_nonneg, List.getElem?_map, List.length_map, Nat.zero_add, eq_self, Bool.not_true, Bool.not_false]) ?_
      rw [← wsK_set wayT l k _ hx]
      exact leH_set gle
    · have hkl : k = l.length := by have := of_decide_eq_false h2; omega
      subst hkl
      simp -dsimp (maxDischargeDepth := 9) only [go_sem, Nat.reduceBEq, Nat.reduceLT, Nat.reduceAdd, Nat.reduceSub, Nat.reduceMul, Nat.reduceLeDiff, Int.reduceLE, Int.toNat_natCast, Int.natCast_nonneg, List.getElem?_map, List.length_map, Nat.zero_add, eq_self, Bool.not_true, Bool.not_false, h2]
      rw [wsK_full] at gb
      have gl : LeH H G := fun x o hx => gle x o (leH_upd hb (.refl H) x o hx)
      have hj := join_len (l.map wayT) [44, 32] (by decide)
      refine ACall.frz [true, false] ?_
      simp -dsimp (maxDischargeDepth := 9) only [go_sem, Nat.reduceBEq, Nat.reduceLT, Nat.reduceAdd, Nat.reduceSub, Nat.reduceMul, Nat.reduceLeDiff, Int.reduceLE, Int.toNat_natCast, Int.natCast_nonneg, List.getElem?_map, List.length_map, Nat.zero_add, eq_self, Bool.not_true, Bool.not_false, gb]
      rw [show (l.map wayT).map S = ((l.map wayT).map fun s => (⟨s.toArray⟩ : ByteArray)).map .str by simp]
      have hmap : ((l.map wayT).map fun s => (⟨s.toArray⟩ : ByteArray)).map (fun x => x.data.toList) = l.map wayT := by simp
      refine join_ok _ _ (by simp only [List.length_map]; omega) (by rw [hmap]; show (Lib.join (l.map wayT) [44, 32]).length ≤ _; omega) ?_
      rw [hmap]
      simp -dsimp (maxDischargeDepth := 9) only [go_sem, Nat.reduceBEq, Nat.reduceLT, Nat.reduceAdd, Nat.reduceSub, Nat.reduceMul, Nat.reduceLeDiff, Int.reduceLE, Int.toNat_natCast, Int.natCast_nonneg, List.getElem?_map, List.length_map, Nat.zero_add, eq_self, Bool.not_true, Bool.not_false]
      refine andK_split (by simp only [List.size_toArray, List.length_cons, List.length_nil]; omega) ?_
      simp -dsimp (maxDischargeDepth := 9) only [go_sem, Nat.reduceBEq, Nat.reduceLT, Nat.reduceAdd, Nat.reduceSub, Nat.reduceMul, Nat.reduceLeDiff, Int.reduceLE, Int.toNat_natCast, Int.natCast_nonneg, List.getElem?_map, List.length_map, Nat.zero_add, eq_self, Bool.not_true, Bool.not_false, app_mk]
      refine andK_split (by simp only [List.size_toArray, List.length_cons, List.length_nil, List.length_append]; omega) ?_
      simp -dsimp (maxDischargeDepth := 9) only [go_sem, Nat.reduceBEq, Nat.reduceLT, Nat.reduceAdd, Nat.reduceSub, Nat.reduceMul, Nat.reduceLeDiff, Int.reduceLE, Int.toNat_natCast, Int.natCast_nonneg, List.getElem?_map, List.length_map, Nat.zero_add, eq_self, Bool.not_true, Bool.not_false, app_mk]
      refine retW_drop (G := H) (leH_upd hb gl) (retW_is ?_)
      rw [rowT_ne (by intro e; apply h0; simpa using congrArg List.length e)] at hK
      exact hK
theorem args26_ds (H : Heap) (l : List Ty) (hl : l.length ≤ 1048576) (ht : tot (Ty.ts l) ≤ 268435456)
    (ih : ∀ t ∈ l, ∀ (G : Heap) (K : A → Heap → Prop), K (.d (S t.t)) G → ACall Tryz.prog (seatZ eb mm) 13 [.d t.d] G K)
    (K : A → Heap → Prop) (hK : K (.d (S (rowT (Ty.ts l)))) H) : ACall Tryz.prog (seatZ eb mm) 26 [.d (.slice (Ty.ds l)), .func 13 []] H K := by
  rw [Ty.ts_map] at ht hK
  rw [Ty.ds_map]
  exact args26_ok H l hl ht ih K hK
theorem args30_ds (H : Heap) (l : List Tm) (hl : l.length ≤ 1048576) (ht : tot (Tm.ts l) ≤ 268435456)
    (ih : ∀ t ∈ l, ∀ (G : Heap) (K : A → Heap → Prop), K (.d (S t.t)) G → ACall Tryz.prog (seatZ eb mm) 11 [.d t.d] G K)
    (K : A → Heap → Prop) (hK : K (.d (S (rowT (Tm.ts l)))) H) : ACall Tryz.prog (seatZ eb mm) 30 [.d (.slice (Tm.ds l)), .func 11 []] H K := by
  rw [Tm.ts_map] at ht hK
  rw [Tm.ds_map]
  exact args30_ok H l hl ht ih K hK
theorem way_ok (b : Bool) (H : Heap) (K : A → Heap → Prop) (hK : K (.d (S (wayT b))) H) : ACall Tryz.prog (seatZ eb mm) 28 [.d (.bool b)] H K := by
  refine ACall.by mixed fn28 (by simp) ?_
  conv in s28 => cbv
  refine svc_start ?_
  cases b
  · simp -dsimp (maxDischargeDepth := 9) only [go_sem, Nat.reduceBEq, Nat.reduceLT, Nat.reduceAdd, Nat.reduceSub, Nat.reduceMul, Nat.reduceLeDiff, Int.reduceLE, Int.toNat_natCast, Int.natCast_nonneg, List.getElem?_map, List.length_map, Nat.zero_add, eq_self, Bool.not_true, Bool.not_false]
    exact retW_is hK
  · simp -dsimp (maxDischargeDepth := 9) only [go_sem, Nat.reduceBEq, Nat.reduceLT, Nat.reduceAdd, Nat.reduceSub, Nat.reduceMul, Nat.reduceLeDiff, Int.reduceLE, Int.toNat_natCast, Int.natCast_nonneg, List.getElem?_map, List.length_map, Nat.zero_add, eq_self, Bool.not_true, Bool.not_false]
    exact retW_is hK
theorem id_ok (b : Str) (H : Heap) (K : A → Heap → Prop) (hK : K (.d (S b)) H) : ACall Tryz.prog (seatZ eb mm) 24 [.d (S b)] H K := by
  refine ACall.by mixed fn24 (by simp) ?_
  conv in s24 => cbv
  refine svc_start ?_
  simp -dsimp (maxDischargeDepth := 9) only [go_sem, Nat.reduceBEq, Nat.reduceLT, Nat.reduceAdd, Nat.reduceSub, Nat.reduceMul, Nat.reduceLeDiff, Int.reduceLE, Int.toNat_natCast, Int.natCast_nonneg, List.getElem?_map, List.length_map, Nat.zero_add, eq_self, Bool.not_true, Bool.not_false]
  exact retW_is hK

theorem type_ok : ∀ (t : Ty) (hs : D.sizes t.cs ≤ 1048576) (H : Heap) (K : A → Heap → Prop) (hK : K (.d (S t.t)) H), ACall Tryz.prog (seatZ eb mm) 13 [.d t.d] H K
  | .mk v n args, hs, H, K, hK => by
    have hsz : n.length + 1 + D.sizes (Ty.ds args) ≤ 1048576 := by simp only [Ty.cs, D.sizes, D.size, size_mk'] at hs; omega
    have hl : args.length ≤ 1048576 := by have := D.length_le (Ty.ds args); rw [Ty.ds_map, List.length_map] at this; rw [Ty.ds_map] at hsz; omega
    have ht := Ty.lens args
    have hr := rowT_len (Ty.ts args)
    rw [Ty.ts_map] at ht hr
    refine ACall.by mixed fn13 (by simp) ?_
    conv in s13 => cbv
    refine svc_start ?_
    simp -dsimp (maxDischargeDepth := 9) only [go_sem, Nat.reduceBEq, Nat.reduceLT, Nat.reduceAdd, Nat.reduceSub, Nat.reduceMul, Nat.reduceLeDiff, Int.reduceLE, Int.toNat_natCast, Int.natCast_nonneg, List.getElem?_map, List.length_map, Nat.zero_add, eq_self, Bool.not_true, Bool.not_false, Ty.d, Ty.cs]
    refine newK_intro (fun b1 hb1 hn1 hm1 => ?_)
    simp -dsimp (maxDischargeDepth := 9) only [go_sem, Nat.reduceBEq, Nat.reduceLT, Nat.reduceAdd, Nat.reduceSub, Nat.reduceMul, Nat.reduceLeDiff, Int.reduceLE, Int.toNat_natCast, Int.natCast_nonneg, List.getElem?_map, List.length_map, Nat.zero_add, eq_self, Bool.not_true, Bool.not_false, Ty.ds_map]
    refine args26_ok _ args hl (by omega) (fun t ht' G K hK => type_ok t ?_ G K hK) _ ?_
    · have := D.mem_le (l := Ty.ds args) (d := t.d) (by rw [Ty.ds_map]; exact List.mem_map_of_mem ht')
      simp only [Ty.d, D.size] at this
      omega
    · simp -dsimp (maxDischargeDepth := 9) only [go_sem, Nat.reduceBEq, Nat.reduceLT, Nat.reduceAdd, Nat.reduceSub, Nat.reduceMul, Nat.reduceLeDiff, Int.reduceLE, Int.toNat_natCast, Int.natCast_nonneg, List.getElem?_map, List.length_map, Nat.zero_add, eq_self, Bool.not_true, Bool.not_false]
      refine andK_split (by simp only [List.size_toArray]; omega) ?_
      simp -dsimp (maxDischargeDepth := 9) only [go_sem, Nat.reduceBEq, Nat.reduceLT, Nat.reduceAdd, Nat.reduceSub, Nat.reduceMul, Nat.reduceLeDiff, Int.reduceLE, Int.toNat_natCast, Int.natCast_nonneg, List.getElem?_map, List.length_map, Nat.zero_add, eq_self, Bool.not_true, Bool.not_false, app_mk]
      refine retW_drop (G := H) (leH_upd hb1 (.refl H)) (retW_is ?_)
      rw [Ty.t, Ty.ts_map] at hK
      exact hK
termination_by t => SizeOf.sizeOf t
decreasing_by
  have := List.sizeOf_lt_of_mem ht'
  simp
  omega
end Go.Aug

/- The forms of terms; words of determinism; a goal within a goal. -/
namespace Go.Aug
open Go.Proofs
set_option maxRecDepth 100000
set_option linter.unusedSimpArgs false
attribute [local irreducible] hid andK letA onSome onVar onArr arrOnly onInt onBool onFunc onTup idxA ldV ldD addO ofPart appTo fillL slA srcK nilQ retW gif sgd sguard svc sops sdops sagain aopO aLoad aStore aBin aUn aConv aLen aIndexAddr aIndex aIndexAddrS aIndexS aSlice aAppend aBuild aBuildSlice aMakeSlice aField aFieldOf aCallOp deepK deepL frzM putE newK newV growV ACall roundQ thenQ inBlockQ sret cnd szs nilC onMap onRow aLookup aMapUpdate aMakeMap
variable {eb : Nat → Addr} {mm : Nat → Option Obj}

theorem term_ok (hm : TabM mm) : ∀ (t : Tm) (ho : t.ok) (hs : D.sizes t.cs ≤ 1048576) (H : Heap) (K : A → Heap → Prop) (hK : K (.d (S t.t)) H), ACall Tryz.prog (seatZ eb mm) 11 [.d t.d] H K
  | .mk k n i args, ho, hs, H, K, hK => by
    have hsz : n.length + 1 + D.sizes (Tm.ds args) ≤ 1048576 := by simp only [Tm.cs, D.sizes, D.size, size_mk'] at hs; omega
    have hl : args.length ≤ 1048576 := by have := D.length_le (Tm.ds args); rw [Tm.ds_map, List.length_map] at this; rw [Tm.ds_map] at hsz; omega
    have ht := Tm.lens args ho.2.2
    have hr := rowT_len (Tm.ts args)
    have hil := itoa_len ho.2.1
    have hio := ho.2.1
    have hoa := Tm.oks_mem ho.2.2
    rw [Tm.ts_map] at ht hr
    have hsub : ∀ t' ∈ args, D.sizes t'.cs ≤ 1048576 := fun t' ht' => by
      have := D.mem_le (l := Tm.ds args) (d := t'.d) (by rw [Tm.ds_map]; exact List.mem_map_of_mem ht')
      simp only [Tm.d, D.size] at this
      omega
    rw [Tm.t, Tm.ts_map] at hK
    refine ACall.by mixed fn11 (by simp) ?_
    conv in s11 => cbv
    refine svc_start ?_
    simp -dsimp (maxDischargeDepth := 9) only [go_sem, Nat.reduceBEq, Nat.reduceLT, Nat.reduceAdd, Nat.reduceSub, Nat.reduceMul, Nat.reduceLeDiff, Int.reduceLE, Int.toNat_natCast, Int.natCast_nonneg, List.getElem?_map, List.length_map, Nat.zero_add, eq_self, Bool.not_true, Bool.not_false, Tm.d, Tm.cs]
    refine newK_intro (fun b1 hb1 hn1 hm1 => ?_)
    simp -dsimp (maxDischargeDepth := 9) only [go_sem, Nat.reduceBEq, Nat.reduceLT, Nat.reduceAdd, Nat.reduceSub, Nat.reduceMul, Nat.reduceLeDiff, Int.reduceLE, Int.toNat_natCast, Int.natCast_nonneg, List.getElem?_map, List.length_map, Nat.zero_add, eq_self, Bool.not_true, Bool.not_false, Tm.ds_map]
    refine gif_split (fun h => ?_) (fun h => ?_)
    · have hk : k = 2 := of_decide_eq_true h
      rw [if_pos hk] at hK
      simp -dsimp (maxDischargeDepth := 9) only [go_sem, Nat.reduceBEq, Nat.reduceLT, Nat.reduceAdd, Nat.reduceSub, Nat.reduceMul, Nat.reduceLeDiff, Int.reduceLE, Int.toNat_natCast, Int.natCast_nonneg, List.getElem?_map, List.length_map, Nat.zero_add, eq_self, Bool.not_true, Bool.not_false, h]
      refine itoa_ok hm i hio.1 hio.2 ?_
      simp -dsimp (maxDischargeDepth := 9) only [go_sem, Nat.reduceBEq, Nat.reduceLT, Nat.reduceAdd, Nat.reduceSub, Nat.reduceMul, Nat.reduceLeDiff, Int.reduceLE, Int.toNat_natCast, Int.natCast_nonneg, List.getElem?_map, List.length_map, Nat.zero_add, eq_self, Bool.not_true, Bool.not_false]
      refine args30_ok _ args hl (by omega) (fun t ht' G K hK => term_ok hm t (hoa t ht') (hsub t ht') G K hK) _ ?_
      simp -dsimp (maxDischargeDepth := 9) only [go_sem, Nat.reduceBEq, Nat.reduceLT, Nat.reduceAdd, Nat.reduceSub, Nat.reduceMul, Nat.reduceLeDiff, Int.reduceLE, Int.toNat_natCast, Int.natCast_nonneg, List.getElem?_map, List.length_map, Nat.zero_add, eq_self, Bool.not_true, Bool.not_false]
      refine andK_split (by simp only [List.size_toArray]; omega) ?_
      simp -dsimp (maxDischargeDepth := 9) only [go_sem, Nat.reduceBEq, Nat.reduceLT, Nat.reduceAdd, Nat.reduceSub, Nat.reduceMul, Nat.reduceLeDiff, Int.reduceLE, Int.toNat_natCast, Int.natCast_nonneg, List.getElem?_map, List.length_map, Nat.zero_add, eq_self, Bool.not_true, Bool.not_false, app_mk]
      exact retW_drop (G := H) (leH_upd hb1 (.refl H)) (retW_is hK)
    · have hk : ¬ k = 2 := of_decide_eq_false h
      rw [if_neg hk] at hK
      simp -dsimp (maxDischargeDepth := 9) only [go_sem, Nat.reduceBEq, Nat.reduceLT, Nat.reduceAdd, Nat.reduceSub, Nat.reduceMul, Nat.reduceLeDiff, Int.reduceLE, Int.toNat_natCast, Int.natCast_nonneg, List.getElem?_map, List.length_map, Nat.zero_add, eq_self, Bool.not_true, Bool.not_false, h]
      refine args30_ok _ args hl (by omega) (fun t ht' G K hK => term_ok hm t (hoa t ht') (hsub t ht') G K hK) _ ?_
      simp -dsimp (maxDischargeDepth := 9) only [go_sem, Nat.reduceBEq, Nat.reduceLT, Nat.reduceAdd, Nat.reduceSub, Nat.reduceMul, Nat.reduceLeDiff, Int.reduceLE, Int.toNat_natCast, Int.natCast_nonneg, List.getElem?_map, List.length_map, Nat.zero_add, eq_self, Bool.not_true, Bool.not_false]
      refine andK_split (by simp only [List.size_toArray]; omega) ?_
      simp -dsimp (maxDischargeDepth := 9) only [go_sem, Nat.reduceBEq, Nat.reduceLT, Nat.reduceAdd, Nat.reduceSub, Nat.reduceMul, Nat.reduceLeDiff, Int.reduceLE, Int.toNat_natCast, Int.natCast_nonneg, List.getElem?_map, List.length_map, Nat.zero_add, eq_self, Bool.not_true, Bool.not_false, app_mk]
      exact retW_drop (G := H) (leH_upd hb1 (.refl H)) (retW_is hK)
termination_by t => SizeOf.sizeOf t
decreasing_by
  all_goals (
    have := List.sizeOf_lt_of_mem ht'
    simp
    omega)

theorem det_ok (n : Int) (H : Heap) (K : A → Heap → Prop) (hK : K (.d (S (detT n))) H) : ACall Tryz.prog (seatZ eb mm) 29 [.d (.int .i64 n)] H K := by
  refine ACall.by mixed fn29 (by simp) ?_
  conv in s29 => cbv
  refine svc_start ?_
  simp -dsimp (maxDischargeDepth := 9) only [go_sem, Nat.reduceBEq, Nat.reduceLT, Nat.reduceAdd, Nat.reduceSub, Nat.reduceMul, Nat.reduceLeDiff, Int.reduceLE, Int.toNat_natCast, Int.natCast_nonneg, List.getElem?_map, List.length_map, Nat.zero_add, eq_self, Bool.not_true, Bool.not_false]
  refine newK_intro (fun b1 hb1 hn1 hm1 => ?_)
  simp -dsimp (maxDischargeDepth := 9) only [go_sem, Nat.reduceBEq, Nat.reduceLT, Nat.reduceAdd, Nat.reduceSub, Nat.reduceMul, Nat.reduceLeDiff, Int.reduceLE, Int.toNat_natCast, Int.natCast_nonneg, List.getElem?_map, List.length_map, Nat.zero_add, eq_self, Bool.not_true, Bool.not_false]
  refine gif_split (fun h => ?_) (fun h => ?_)
  · have hn : n < 0 := of_decide_eq_true h
    have e : detT n = [] := by unfold detT; rw [if_neg (by omega), if_neg (by omega), if_neg (by omega), if_neg (by omega)]
    rw [e] at hK
    simp -dsimp (maxDischargeDepth := 9) only [go_sem, Nat.reduceBEq, Nat.reduceLT, Nat.reduceAdd, Nat.reduceSub, Nat.reduceMul, Nat.reduceLeDiff, Int.reduceLE, Int.toNat_natCast, Int.natCast_nonneg, List.getElem?_map, List.length_map, Nat.zero_add, eq_self, Bool.not_true, Bool.not_false, h]
    exact retW_drop (G := H) (leH_upd hb1 (leH_upd hb1 (.refl H))) (retW_is hK)
  · have hn : ¬ n < 0 := of_decide_eq_false h
    simp -dsimp (maxDischargeDepth := 9) only [go_sem, Nat.reduceBEq, Nat.reduceLT, Nat.reduceAdd, Nat.reduceSub, Nat.reduceMul, Nat.reduceLeDiff, Int.reduceLE, Int.toNat_natCast, Int.natCast_nonneg, List.getElem?_map, List.length_map, Nat.zero_add, eq_self, Bool.not_true, Bool.not_false, h]
    refine gif_split (fun h2 => ?_) (fun h2 => ?_)
    · have hn2 : 5 ≤ n := of_decide_eq_true h2
      have e : detT n = [] := by unfold detT; rw [if_neg (by omega), if_neg (by omega), if_neg (by omega), if_neg (by omega)]
      rw [e] at hK
      simp -dsimp (maxDischargeDepth := 9) only [go_sem, Nat.reduceBEq, Nat.reduceLT, Nat.reduceAdd, Nat.reduceSub, Nat.reduceMul, Nat.reduceLeDiff, Int.reduceLE, Int.toNat_natCast, Int.natCast_nonneg, List.getElem?_map, List.length_map, Nat.zero_add, eq_self, Bool.not_true, Bool.not_false, h2]
      exact retW_drop (G := H) (leH_upd hb1 (leH_upd hb1 (.refl H))) (retW_is hK)
    · have hn2 : ¬ 5 ≤ n := of_decide_eq_false h2
      have : n = 0 ∨ n = 1 ∨ n = 2 ∨ n = 3 ∨ n = 4 := by omega
      rcases this with rfl | rfl | rfl | rfl | rfl <;> (simp -dsimp (maxDischargeDepth := 9) only [go_sem, Nat.reduceBEq, Nat.reduceLT, Nat.reduceAdd, Nat.reduceSub, Nat.reduceMul, Nat.reduceLeDiff, Int.reduceLE, Int.toNat_natCast, Int.natCast_nonneg, List.getElem?_map, List.length_map, Nat.zero_add, eq_self, Bool.not_true, Bool.not_false, h2]; refine andK_split (by decide) ?_; simp -dsimp (maxDischargeDepth := 9) only [go_sem, Nat.reduceBEq, Nat.reduceLT, Nat.reduceAdd, Nat.reduceSub, Nat.reduceMul, Nat.reduceLeDiff, Int.reduceLE, Int.toNat_natCast, Int.natCast_nonneg, List.getElem?_map, List.length_map, Nat.zero_add, eq_self, Bool.not_true, Bool.not_false, Int.reduceToNat]; exact retW_drop (G := H) (leH_upd hb1 (leH_upd hb1 (.refl H))) (retW_is hK))

theorem Gl.open (g : Gl) : ∃ gk ak an ai aa bk bn bi ba n ga gs, g = .mk gk (.mk ak an ai aa) (.mk bk bn bi ba) n ga gs := by
  obtain ⟨gk, ⟨ak, an, ai, aa⟩, ⟨bk, bn, bi, ba⟩, n, ga, gs⟩ := g
  exact ⟨_, _, _, _, _, _, _, _, _, _, _, _, rfl⟩
theorem Gl.dopen (g : Gl) : ∃ x1 x2 x3 x4 x5 x6 x7 x8 x9 x10 x11 x12, g.d = .agg [x1, x2, x3, x4, x5, x6, x7, x8, x9, x10, x11, x12] := by
  obtain ⟨gk, ⟨ak, an, ai, aa⟩, ⟨bk, bn, bi, ba⟩, n, ga, gs⟩ := g
  exact ⟨_, _, _, _, _, _, _, _, _, _, _, _, rfl⟩
theorem Gl.w_t (k : Int) (g : Gl) (h : loose k g.kind = true) : Gl.w k g = 40 :: (g.t ++ [41]) := by unfold Gl.w; rw [h]; rfl
theorem Gl.w_f (k : Int) (g : Gl) (h : loose k g.kind = false) : Gl.w k g = g.t := by unfold Gl.w; rw [h]; rfl

theorem within_ok (k : Int) (g : Gl) (hg : g.ok) (hs : D.sizes g.cs ≤ 1048576) (ih : ∀ (G : Heap) (K : A → Heap → Prop), K (.d (S g.t)) G → ACall Tryz.prog (seatZ eb mm) 9 [.d g.d] G K)
    (H : Heap) (K : A → Heap → Prop) (hK : K (.d (S (Gl.w k g))) H) : ACall Tryz.prog (seatZ eb mm) 54 [.d (.int .i64 k), .d g.d] H K := by
  have hl := Gl.len g hg
  refine ACall.by mixed fn54 (by simp) ?_
  conv in s54 => cbv
  refine svc_start ?_
  obtain ⟨gk, ak, an, ai, aa, bk, bn, bi, ba, n, ga, gs, he⟩ := Gl.open g
  have hd : g.d = .agg [.int .i64 gk, .int .i64 ak, S an, .int .i64 ai, .slice (Tm.ds aa), .int .i64 bk, S bn, .int .i64 bi, .slice (Tm.ds ba), S n, .slice (Tm.ds ga), .slice (Gl.ds gs)] := by rw [he]; rfl
  have hkd : g.kind = gk := by rw [he]; rfl
  simp -dsimp (maxDischargeDepth := 9) only [go_sem, Nat.reduceBEq, Nat.reduceLT, Nat.reduceAdd, Nat.reduceSub, Nat.reduceMul, Nat.reduceLeDiff, Int.reduceLE, Int.toNat_natCast, Int.natCast_nonneg, List.getElem?_map, List.length_map, Nat.zero_add, eq_self, Bool.not_true, Bool.not_false, hd]
  refine newK_intro (fun b1 hb1 hn1 hm1 => ?_)
  simp -dsimp (maxDischargeDepth := 9) only [go_sem, Nat.reduceBEq, Nat.reduceLT, Nat.reduceAdd, Nat.reduceSub, Nat.reduceMul, Nat.reduceLeDiff, Int.reduceLE, Int.toNat_natCast, Int.natCast_nonneg, List.getElem?_map, List.length_map, Nat.zero_add, eq_self, Bool.not_true, Bool.not_false]
  rw [← hd]
  refine ih _ _ ?_
  simp -dsimp (maxDischargeDepth := 9) only [go_sem, Nat.reduceBEq, Nat.reduceLT, Nat.reduceAdd, Nat.reduceSub, Nat.reduceMul, Nat.reduceLeDiff, Int.reduceLE, Int.toNat_natCast, Int.natCast_nonneg, List.getElem?_map, List.length_map, Nat.zero_add, eq_self, Bool.not_true, Bool.not_false]
  refine gif_split (fun h => ?_) (fun h => ?_)
  · have h6 : gk = 6 := of_decide_eq_true h
    rw [Gl.w_t k g (by rw [hkd, h6]; rfl)] at hK
    simp -dsimp (maxDischargeDepth := 9) only [go_sem, Nat.reduceBEq, Nat.reduceLT, Nat.reduceAdd, Nat.reduceSub, Nat.reduceMul, Nat.reduceLeDiff, Int.reduceLE, Int.toNat_natCast, Int.natCast_nonneg, List.getElem?_map, List.length_map, Nat.zero_add, eq_self, Bool.not_true, Bool.not_false, h]
    refine andK_split (by simp only [List.size_toArray, List.length_cons, List.length_nil]; omega) ?_
    simp -dsimp (maxDischargeDepth := 9) only [go_sem, Nat.reduceBEq, Nat.reduceLT, Nat.reduceAdd, Nat.reduceSub, Nat.reduceMul, Nat.reduceLeDiff, Int.reduceLE, Int.toNat_natCast, Int.natCast_nonneg, List.getElem?_map, List.length_map, Nat.zero_add, eq_self, Bool.not_true, Bool.not_false, app_mk]
    refine andK_split (by simp only [List.size_toArray, List.length_cons, List.length_nil, List.length_append]; omega) ?_
    simp -dsimp (maxDischargeDepth := 9) only [go_sem, Nat.reduceBEq, Nat.reduceLT, Nat.reduceAdd, Nat.reduceSub, Nat.reduceMul, Nat.reduceLeDiff, Int.reduceLE, Int.toNat_natCast, Int.natCast_nonneg, List.getElem?_map, List.length_map, Nat.zero_add, eq_self, Bool.not_true, Bool.not_false, app_mk]
    exact retW_drop (G := H) (leH_upd hb1 (.refl H)) (retW_is hK)
  · have h6 : ¬ gk = 6 := of_decide_eq_false h
    simp -dsimp (maxDischargeDepth := 9) only [go_sem, Nat.reduceBEq, Nat.reduceLT, Nat.reduceAdd, Nat.reduceSub, Nat.reduceMul, Nat.reduceLeDiff, Int.reduceLE, Int.toNat_natCast, Int.natCast_nonneg, List.getElem?_map, List.length_map, Nat.zero_add, eq_self, Bool.not_true, Bool.not_false, h]
    refine gif_split (fun h2 => ?_) (fun h2 => ?_)
    · have h5 : gk = 5 := of_decide_eq_true h2
      simp -dsimp (maxDischargeDepth := 9) only [go_sem, Nat.reduceBEq, Nat.reduceLT, Nat.reduceAdd, Nat.reduceSub, Nat.reduceMul, Nat.reduceLeDiff, Int.reduceLE, Int.toNat_natCast, Int.natCast_nonneg, List.getElem?_map, List.length_map, Nat.zero_add, eq_self, Bool.not_true, Bool.not_false, h2]
      refine gif_split (fun h3 => ?_) (fun h3 => ?_)
      · have hk6 : ¬ k = 6 := by simpa using h3
        rw [Gl.w_t k g (by rw [hkd, h5]; simp [loose, hk6])] at hK
        simp -dsimp (maxDischargeDepth := 9) only [go_sem, Nat.reduceBEq, Nat.reduceLT, Nat.reduceAdd, Nat.reduceSub, Nat.reduceMul, Nat.reduceLeDiff, Int.reduceLE, Int.toNat_natCast, Int.natCast_nonneg, List.getElem?_map, List.length_map, Nat.zero_add, eq_self, Bool.not_true, Bool.not_false, h3]
        refine andK_split (by simp only [List.size_toArray, List.length_cons, List.length_nil]; omega) ?_
        simp -dsimp (maxDischargeDepth := 9) only [go_sem, Nat.reduceBEq, Nat.reduceLT, Nat.reduceAdd, Nat.reduceSub, Nat.reduceMul, Nat.reduceLeDiff, Int.reduceLE, Int.toNat_natCast, Int.natCast_nonneg, List.getElem?_map, List.length_map, Nat.zero_add, eq_self, Bool.not_true, Bool.not_false, app_mk]
        refine andK_split (by simp only [List.size_toArray, List.length_cons, List.length_nil, List.length_append]; omega) ?_
        simp -dsimp (maxDischargeDepth := 9) only [go_sem, Nat.reduceBEq, Nat.reduceLT, Nat.reduceAdd, Nat.reduceSub, Nat.reduceMul, Nat.reduceLeDiff, Int.reduceLE, Int.toNat_natCast, Int.natCast_nonneg, List.getElem?_map, List.length_map, Nat.zero_add, eq_self, Bool.not_true, Bool.not_false, app_mk]
        exact retW_drop (G := H) (leH_upd hb1 (.refl H)) (retW_is hK)
      · have hk6 : k = 6 := by simpa using h3
        rw [Gl.w_f k g (by rw [hkd, h5, hk6]; rfl)] at hK
        simp -dsimp (maxDischargeDepth := 9) only [go_sem, Nat.reduceBEq, Nat.reduceLT, Nat.reduceAdd, Nat.reduceSub, Nat.reduceMul, Nat.reduceLeDiff, Int.reduceLE, Int.toNat_natCast, Int.natCast_nonneg, List.getElem?_map, List.length_map, Nat.zero_add, eq_self, Bool.not_true, Bool.not_false, h3]
        exact retW_drop (G := H) (leH_upd hb1 (.refl H)) (retW_is hK)
    · have h5 : ¬ gk = 5 := of_decide_eq_false h2
      rw [Gl.w_f k g (by rw [hkd]; simp [loose, h5, h6])] at hK
      simp -dsimp (maxDischargeDepth := 9) only [go_sem, Nat.reduceBEq, Nat.reduceLT, Nat.reduceAdd, Nat.reduceSub, Nat.reduceMul, Nat.reduceLeDiff, Int.reduceLE, Int.toNat_natCast, Int.natCast_nonneg, List.getElem?_map, List.length_map, Nat.zero_add, eq_self, Bool.not_true, Bool.not_false, h2]
      exact retW_drop (G := H) (leH_upd hb1 (.refl H)) (retW_is hK)
end Go.Aug

/- The forms of goals. -/
namespace Go.Aug
open Go.Proofs
set_option maxRecDepth 100000
set_option linter.unusedSimpArgs false
attribute [local irreducible] hid andK letA onSome onVar onArr arrOnly onInt onBool onFunc onTup idxA ldV ldD addO ofPart appTo fillL slA srcK nilQ retW gif sgd sguard svc sops sdops sagain aopO aLoad aStore aBin aUn aConv aLen aIndexAddr aIndex aIndexAddrS aIndexS aSlice aAppend aBuild aBuildSlice aMakeSlice aField aFieldOf aCallOp deepK deepL frzM putE newK newV growV ACall roundQ thenQ inBlockQ sret cnd szs nilC onMap onRow aLookup aMapUpdate aMakeMap
variable {eb : Nat → Addr} {mm : Nat → Option Obj}

/-- What is asked of the goals in a goal. -/
def SubOk (eb : Nat → Addr) (mm : Nat → Option Obj) (f : FuncId) (gs : List Gl) : Prop :=
  ∀ g ∈ gs, ∀ (G : Heap) (K : A → Heap → Prop), K (.d (S g.t)) G → ACall Tryz.prog (seatZ eb mm) f [.d g.d] G K

theorem part_ok (i : Nat) (hi : i ≤ 1) (g : Gl) (hg : g.ok) (hs : D.sizes g.cs ≤ 1048576) {gk : Int} {a b : Tm} {n : Str} {ga : List Tm} {gs : List Gl} (he : g = .mk gk a b n ga gs) (ih : SubOk eb mm 9 gs)
    (H : Heap) (K : A → Heap → Prop) (hK : K (.d (S ((Gl.ws gk gs).getD i []))) H) : ACall Tryz.prog (seatZ eb mm) 36 [.d g.d, .d (.int .i64 i)] H K := by
  obtain ⟨ak, an, ai, aa⟩ := a
  obtain ⟨bk, bn, bi, ba⟩ := b
  have hd : g.d = .agg [.int .i64 gk, .int .i64 ak, S an, .int .i64 ai, .slice (Tm.ds aa), .int .i64 bk, S bn, .int .i64 bi, .slice (Tm.ds ba), S n, .slice (Tm.ds ga), .slice (Gl.ds gs)] := by rw [he]; rfl
  have hgs : Gl.oks gs := by rw [he] at hg; exact hg.2.2.2.2
  have hsz : D.sizes (Gl.ds gs) ≤ 1048576 := by
    have : D.sizes g.cs + 1 = (g.d).size := rfl
    rw [hd] at this
    simp only [D.size, D.sizes] at this
    omega
  have hl : gs.length ≤ 1048576 := by have := D.length_le (Gl.ds gs); rw [Gl.ds_map, List.length_map] at this; rw [Gl.ds_map] at hsz; omega
  rw [Gl.ws_map] at hK
  refine ACall.by mixed fn36 (by simp) ?_
  conv in s36 => cbv
  refine svc_start ?_
  simp -dsimp (maxDischargeDepth := 9) only [go_sem, Nat.reduceBEq, Nat.reduceLT, Nat.reduceAdd, Nat.reduceSub, Nat.reduceMul, Nat.reduceLeDiff, Int.reduceLE, Int.toNat_natCast, Int.natCast_nonneg, List.getElem?_map, List.length_map, Nat.zero_add, eq_self, Bool.not_true, Bool.not_false, hd]
  refine newK_intro (fun b1 hb1 hn1 hm1 => ?_)
  simp -dsimp (maxDischargeDepth := 9) only [go_sem, Nat.reduceBEq, Nat.reduceLT, Nat.reduceAdd, Nat.reduceSub, Nat.reduceMul, Nat.reduceLeDiff, Int.reduceLE, Int.toNat_natCast, Int.natCast_nonneg, List.getElem?_map, List.length_map, Nat.zero_add, eq_self, Bool.not_true, Bool.not_false, Gl.ds_map]
  refine gif_split (fun h => ?_) (fun h => ?_)
  · have hil : gs.length ≤ i := by have := of_decide_eq_true h; omega
    have e : (gs.map (Gl.w gk)).getD i [] = [] := by simp [List.getD, hil]
    rw [e] at hK
    simp -dsimp (maxDischargeDepth := 9) only [go_sem, Nat.reduceBEq, Nat.reduceLT, Nat.reduceAdd, Nat.reduceSub, Nat.reduceMul, Nat.reduceLeDiff, Int.reduceLE, Int.toNat_natCast, Int.natCast_nonneg, List.getElem?_map, List.length_map, Nat.zero_add, eq_self, Bool.not_true, Bool.not_false, h]
    exact retW_drop (G := H) (leH_upd hb1 (.refl H)) (retW_is hK)
  · have hil : i < gs.length := by have := of_decide_eq_false h; omega
    obtain ⟨x, hx⟩ : ∃ x, gs[i]? = some x := ⟨gs[i], List.getElem?_eq_getElem hil⟩
    have hmx : x ∈ gs := List.mem_of_getElem? hx
    have e : (gs.map (Gl.w gk)).getD i [] = Gl.w gk x := by simp [List.getD, hx]
    rw [e] at hK
    have hxs : D.sizes x.cs ≤ 1048576 := by
      have := D.mem_le (l := Gl.ds gs) (d := x.d) (by rw [Gl.ds_map]; exact List.mem_map_of_mem hmx)
      simp only [Gl.d, D.size] at this
      omega
    obtain ⟨x1, x2, x3, x4, x5, x6, x7, x8, x9, x10, x11, x12, hdx⟩ := Gl.dopen x
    simp -dsimp (maxDischargeDepth := 9) only [go_sem, Nat.reduceBEq, Nat.reduceLT, Nat.reduceAdd, Nat.reduceSub, Nat.reduceMul, Nat.reduceLeDiff, Int.reduceLE, Int.toNat_natCast, Int.natCast_nonneg, List.getElem?_map, List.length_map, Nat.zero_add, eq_self, Bool.not_true, Bool.not_false, h, hx]
    refine andK_split (by rw [hdx]; rfl) ?_
    simp -dsimp (maxDischargeDepth := 9) only [go_sem, Nat.reduceBEq, Nat.reduceLT, Nat.reduceAdd, Nat.reduceSub, Nat.reduceMul, Nat.reduceLeDiff, Int.reduceLE, Int.toNat_natCast, Int.natCast_nonneg, List.getElem?_map, List.length_map, Nat.zero_add, eq_self, Bool.not_true, Bool.not_false, hdx, D.cells]
    rw [← hdx]
    refine within_ok gk x (Gl.oks_mem hgs x hmx) hxs (ih x hmx) _ _ ?_
    simp -dsimp (maxDischargeDepth := 9) only [go_sem, Nat.reduceBEq, Nat.reduceLT, Nat.reduceAdd, Nat.reduceSub, Nat.reduceMul, Nat.reduceLeDiff, Int.reduceLE, Int.toNat_natCast, Int.natCast_nonneg, List.getElem?_map, List.length_map, Nat.zero_add, eq_self, Bool.not_true, Bool.not_false]
    exact retW_drop (G := H) (leH_upd hb1 (.refl H)) (retW_is hK)

theorem joined_ok (sep : Str) (hsep : sep.length ≤ 4) (g : Gl) (hg : g.ok) (hs : D.sizes g.cs ≤ 1048576) {gk : Int} {a b : Tm} {n : Str} {ga : List Tm} {gs : List Gl} (he : g = .mk gk a b n ga gs) (ih : SubOk eb mm 9 gs)
    (H : Heap) (K : A → Heap → Prop) (hK : K (.d (S (Lib.join (Gl.ws gk gs) sep))) H) : ACall Tryz.prog (seatZ eb mm) 35 [.d g.d, .d (S sep)] H K := by
  obtain ⟨ak, an, ai, aa⟩ := a
  obtain ⟨bk, bn, bi, ba⟩ := b
  have hd : g.d = .agg [.int .i64 gk, .int .i64 ak, S an, .int .i64 ai, .slice (Tm.ds aa), .int .i64 bk, S bn, .int .i64 bi, .slice (Tm.ds ba), S n, .slice (Tm.ds ga), .slice (Gl.ds gs)] := by rw [he]; rfl
  have hgs : Gl.oks gs := by rw [he] at hg; exact hg.2.2.2.2
  have hsz : D.sizes (Gl.ds gs) ≤ 1048576 := by
    have : D.sizes g.cs + 1 = (g.d).size := rfl
    rw [hd] at this
    simp only [D.size, D.sizes] at this
    omega
  have hl : gs.length ≤ 1048576 := by have := D.length_le (Gl.ds gs); rw [Gl.ds_map, List.length_map] at this; rw [Gl.ds_map] at hsz; omega
  have ht := Gl.lens gs hgs gk
  rw [Gl.ws_map] at hK ht
  refine ACall.by mixed fn35 (by simp) ?_
  conv in s35 => cbv
  refine svc_start ?_
  simp -dsimp (maxDischargeDepth := 9) only [go_sem, Nat.reduceBEq, Nat.reduceLT, Nat.reduceAdd, Nat.reduceSub, Nat.reduceMul, Nat.reduceLeDiff, Int.reduceLE, Int.toNat_natCast, Int.natCast_nonneg, List.getElem?_map, List.length_map, Nat.zero_add, eq_self, Bool.not_true, Bool.not_false, hd]
  refine newK_intro (fun b1 hb1 hn1 hm1 => ?_)
  simp -dsimp (maxDischargeDepth := 9) only [go_sem, Nat.reduceBEq, Nat.reduceLT, Nat.reduceAdd, Nat.reduceSub, Nat.reduceMul, Nat.reduceLeDiff, Int.reduceLE, Int.toNat_natCast, Int.natCast_nonneg, List.getElem?_map, List.length_map, Nat.zero_add, eq_self, Bool.not_true, Bool.not_false, Gl.ds_map]
  refine andK_split (by omega) ?_
  simp -dsimp (maxDischargeDepth := 9) only [go_sem, Nat.reduceBEq, Nat.reduceLT, Nat.reduceAdd, Nat.reduceSub, Nat.reduceMul, Nat.reduceLeDiff, Int.reduceLE, Int.toNat_natCast, Int.natCast_nonneg, List.getElem?_map, List.length_map, Nat.zero_add, eq_self, Bool.not_true, Bool.not_false, Gl.ds_map]
  refine newV_intro (fun b v hb hn hm hv => ?_)
  generalize hHB : upd H b1 _ = HB at hb hn hm ⊢
  have g1 := congrFun hHB b1
  rw [upd_same] at g1
  have g1 := g1.symm
  have hle : LeH H HB := by rw [← hHB]; exact leH_upd hb1 (.refl H)
  have e1 : eqn b1 b = false := hn b1 (by rw [g1]; rfl)
  simp -dsimp (maxDischargeDepth := 9) only [go_sem, Nat.reduceBEq, Nat.reduceLT, Nat.reduceAdd, Nat.reduceSub, Nat.reduceMul, Nat.reduceLeDiff, Int.reduceLE, Int.toNat_natCast, Int.natCast_nonneg, List.getElem?_map, List.length_map, Nat.zero_add, eq_self, Bool.not_true, Bool.not_false, hn, hm, e1, g1]
  refine svc_loop (X := Nat) (fun k => [(1, .d (S sep)), (2, .ref b1 0), (5, .own b v), (13, .d (.slice (gs.map Gl.d))), (14, .d (.int .i64 gs.length)), (15, .d (.int .i64 k))])
    (fun k G => k ≤ gs.length ∧ LeH (upd HB b (.arr 9 1 v (wsK (Gl.w gk) gs k))) G) (fun k => gs.length - k) 0 _ ⟨by omega, .refl _⟩ (by simp -dsimp (maxDischargeDepth := 9) only [go_sem, Nat.reduceBEq, Nat.reduceLT, Nat.reduceAdd, Nat.reduceSub, Nat.reduceMul, Nat.reduceLeDiff, Int.reduceLE, Int.toNat_natCast, Int.natCast_nonneg, List.getElem?_map, List.length_map, Nat.zero_add, eq_self, Bool.not_true, Bool.not_false]; simp) (by rw [wsK_zero]; exact .refl _) ?_
  rintro k G ⟨hk, gle⟩
  have gb : G b = some (.arr 9 1 v (wsK (Gl.w gk) gs k)) := gle b _ (upd_same ..)
  have g1' := gle b1 _ (by rw [upd_ne _ _ (by rintro rfl; rw [g1] at hb; cases hb)]; exact g1)
  simp -dsimp (maxDischargeDepth := 9) only [go_sem, Nat.reduceBEq, Nat.reduceLT, Nat.reduceAdd, Nat.reduceSub, Nat.reduceMul, Nat.reduceLeDiff, Int.reduceLE, Int.toNat_natCast, Int.natCast_nonneg, List.getElem?_map, List.length_map, Nat.zero_add, eq_self, Bool.not_true, Bool.not_false]
  refine gif_split (fun h2 => ?_) (fun h2 => ?_)
  · have hkl : k < gs.length := by have := of_decide_eq_true h2; omega
    obtain ⟨x, hx⟩ : ∃ x, gs[k]? = some x := ⟨gs[k], List.getElem?_eq_getElem hkl⟩
    have hw : IntKind.i64.wrap ((k : Int) + 1) = ((k + 1 : Nat) : Int) := by rw [wrap_in (by omega) (by omega)]; omega
    have hmx : x ∈ gs := List.mem_of_getElem? hx
    have hxs : D.sizes x.cs ≤ 1048576 := by
      have := D.mem_le (l := Gl.ds gs) (d := x.d) (by rw [Gl.ds_map]; exact List.mem_map_of_mem hmx)
      simp only [Gl.d, D.size] at this
      omega
    obtain ⟨x1, x2, x3, x4, x5, x6, x7, x8, x9, x10, x11, x12, hdx⟩ := Gl.dopen x
    simp -dsimp (maxDischargeDepth := 9) only [go_sem, Nat.reduceBEq, Nat.reduceLT, Nat.reduceAdd, Nat.reduceSub, Nat.reduceMul, Nat.reduceLeDiff, Int.reduceLE, Int.toNat_natCast, Int.natCast_nonneg, List.getElem?_map, List.length_map, Nat.zero_add, eq_self, Bool.not_true, Bool.not_false, h2, hx]
    refine andK_split (by rw [hdx]; rfl) ?_
    simp -dsimp (maxDischargeDepth := 9) only [go_sem, Nat.reduceBEq, Nat.reduceLT, Nat.reduceAdd, Nat.reduceSub, Nat.reduceMul, Nat.reduceLeDiff, Int.reduceLE, Int.toNat_natCast, Int.natCast_nonneg, List.getElem?_map, List.length_map, Nat.zero_add, eq_self, Bool.not_true, Bool.not_false, hdx, D.cells]
    refine newK_intro (fun b7 hb7 hn7 hm7 => ?_)
    have e7 : eqn b b7 = false := hn7 b (by rw [gb]; rfl)
    have e71 : eqn b1 b7 = false := hn7 b1 (by rw [g1']; rfl)
    simp -dsimp (maxDischargeDepth := 9) only [go_sem, Nat.reduceBEq, Nat.reduceLT, Nat.reduceAdd, Nat.reduceSub, Nat.reduceMul, Nat.reduceLeDiff, Int.reduceLE, Int.toNat_natCast, Int.natCast_nonneg, List.getElem?_map, List.length_map, Nat.zero_add, eq_self, Bool.not_true, Bool.not_false, e7, e71, g1']
    rw [← hdx]
    refine within_ok gk x (Gl.oks_mem hgs x hmx) hxs (ih x hmx) _ _ ?_
    simp -dsimp (maxDischargeDepth := 9) only [go_sem, Nat.reduceBEq, Nat.reduceLT, Nat.reduceAdd, Nat.reduceSub, Nat.reduceMul, Nat.reduceLeDiff, Int.reduceLE, Int.toNat_natCast, Int.natCast_nonneg, List.getElem?_map, List.length_map, Nat.zero_add, eq_self, Bool.not_true, Bool.not_false, e7, gb, wsK_len (Gl.w gk) gs k hk]
    refine andK_split (by omega) ?_
    simp -dsimp (maxDischargeDepth := 9) only [go_sem, Nat.reduceBEq, Nat.reduceLT, Nat.reduceAdd, Nat.reduceSub, Nat.reduceMul, Nat.reduceLeDiff, Int.reduceLE, Int.toNat_natCast, Int.natCast_nonneg, List.getElem?_map, List.length_map, Nat.zero_add, eq_self, Bool.not_true, Bool.not_false, e7, gb, wsK_at (Gl.w gk) gs k hkl, D.cells, hw]
    refine roundQ_next (k + 1) (upd HB b (.arr 9 1 v (wsK (Gl.w gk) gs (k + 1)))) ⟨by omega, .refl _⟩ (by omega) (by simp -dsimp (maxDischargeDepth := 9) only [go_sem, Nat.reduceBEq, Nat.reduceLT, Nat.reduceAdd, Nat.reduceSub, Nat.reduceMul, Nat.reduceLeDiff, Int.reduceLE, Int.toNat_natCast, Int.natCast_nonneg, List.getElem?_map, List.length_map, Nat.zero_add, eq_self, Bool.not_true, Bool.not_false]) ?_
    rw [← wsK_set (Gl.w gk) gs k _ hx]
    exact leH_set (gle.trans (by repeat first | exact .refl _ | refine leH_upd hb7 ?_))
  · have hkl : k = gs.length := by have := of_decide_eq_false h2; omega
    subst hkl
    simp -dsimp (maxDischargeDepth := 9) only [go_sem, Nat.reduceBEq, Nat.reduceLT, Nat.reduceAdd, Nat.reduceSub, Nat.reduceMul, Nat.reduceLeDiff, Int.reduceLE, Int.toNat_natCast, Int.natCast_nonneg, List.getElem?_map, List.length_map, Nat.zero_add, eq_self, Bool.not_true, Bool.not_false, h2]
    rw [wsK_full] at gb
    have gl : LeH H G := hle.trans (fun x o hx => gle x o (leH_upd hb (.refl HB) x o hx))
    have hj := join_len (gs.map (Gl.w gk)) sep hsep
    refine ACall.frz [true, false] ?_
    simp -dsimp (maxDischargeDepth := 9) only [go_sem, Nat.reduceBEq, Nat.reduceLT, Nat.reduceAdd, Nat.reduceSub, Nat.reduceMul, Nat.reduceLeDiff, Int.reduceLE, Int.toNat_natCast, Int.natCast_nonneg, List.getElem?_map, List.length_map, Nat.zero_add, eq_self, Bool.not_true, Bool.not_false, gb]
    rw [show (gs.map (Gl.w gk)).map S = ((gs.map (Gl.w gk)).map fun s => (⟨s.toArray⟩ : ByteArray)).map .str by simp]
    have hmap : ((gs.map (Gl.w gk)).map fun s => (⟨s.toArray⟩ : ByteArray)).map (fun x => x.data.toList) = gs.map (Gl.w gk) := by simp
    refine join_ok _ _ (by simp only [List.length_map]; omega) (by rw [hmap]; show (Lib.join (gs.map (Gl.w gk)) sep).length ≤ _; omega) ?_
    rw [hmap]
    simp -dsimp (maxDischargeDepth := 9) only [go_sem, Nat.reduceBEq, Nat.reduceLT, Nat.reduceAdd, Nat.reduceSub, Nat.reduceMul, Nat.reduceLeDiff, Int.reduceLE, Int.toNat_natCast, Int.natCast_nonneg, List.getElem?_map, List.length_map, Nat.zero_add, eq_self, Bool.not_true, Bool.not_false]
    exact retW_drop (G := H) (leH_upd (le_none hle hb) gl) (retW_is hK)
end Go.Aug
