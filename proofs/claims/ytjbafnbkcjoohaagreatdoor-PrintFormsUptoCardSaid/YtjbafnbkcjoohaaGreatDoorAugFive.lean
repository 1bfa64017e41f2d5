/- The abstract layer, fifth part: what is read as data is a deep value of its type's shape; no conditions. -/
import Derived.Test.YtjbafnbkcjoohaaGreatDoorAugFour
import Derived.ChangeArms
import Derived.DataReads
import GoSem.ClaimChange
import Derived.Defers
import Derived.Below
import Derived.Lib.LaidTab
import Derived.Stop.LaidErr
import Derived.ChangeSame
import Derived.ChangeVars
import Derived.JoinedOf
import Derived.RowKit
import Derived.Carry
import Derived.OpenShut
set_option linter.all false
set_option linter.unusedVariables false
set_option linter.unusedSimpArgs false
set_option linter.unusedSectionVars false

/-
  The abstract layer, part W: what is read as data is a deep value of its type's shape.
-/
namespace Go.Aug

/-- A reading's element as one deep value. -/
def elemOf (P : Program) (e : TypeId) (cs : List D) : D := match P.underlying e with
  | some (.struct _) => .agg cs
  | _ => cs.headD (.slice [])

/-- The cells of a value of a type: no pointers, maps, interfaces, functions. -/
def HasT (P : Program) : Nat → TypeId → List D → Prop
  | 0, _, _ => False
  | n + 1, t, ds => match P.underlying t with
    | some .bool => ∃ b, ds = [.bool b]
    | some (.int k) => ∃ m, ds = [.int k m] ∧ (Lit.int k m).wf = true
    | some .string => ∃ s : ByteArray, ds = [.str s] ∧ s.size ≤ maxLen
    | some (.slice e) => ∃ ess : List (List D), ds = [.slice (ess.map (elemOf P e))] ∧ ess.length ≤ maxLen ∧ ∀ cs ∈ ess, HasT P n e cs
    | some (.struct fs) => ds.length = P.cellsOf t ∧ ∀ (i : Nat) (f : Field), fs[i]? = some f → HasT P n f.type ((ds.drop f.offset).take (P.cellsOf f.type))
    | _ => False

def contig (P : Program) : Nat → List Field → Option Nat
  | off, [] => some off
  | off, f :: fs => if f.offset = off then contig P (off + P.cellsOf f.type) fs else none

/-- Types that hold such types alone. -/
def closedT (P : Program) (T : List TypeId) : Bool := T.all fun t => match P.underlying t with
  | some .bool | some (.int _) | some .string => P.cellsOf t == 1
  | some (.slice e) => P.cellsOf t == 1 && T.contains e && decide (0 < P.cellsOf e)
  | some (.struct fs) => fs.toList.all (fun f => T.contains f.type) && (contig P 0 fs.toList == some (P.cellsOf t))
  | _ => false

def RepL (V : Env) (w : World) (Z : Nat → Prop) (vs : List Value) (ds : List D) : Prop :=
  vs.length = ds.length ∧ ∀ (j : Nat) (v : Value) (d : D), vs[j]? = some v → ds[j]? = some d → RepD V w Z v d ∧ v.oneCell' = true

section
variable {V : Env} {w : World} {Z : Nat → Prop} {P : Program}

theorem RepL.nil : RepL V w Z [] [] := ⟨rfl, fun j v d h => by simp at h⟩
theorem RepL.one {v : Value} {d : D} (h : RepD V w Z v d) (h1 : v.oneCell' = true) : RepL V w Z [v] [d] := ⟨rfl, fun j v' d' hv hd => by
  cases j with
  | zero => simp at hv hd; subst hv hd; exact ⟨h, h1⟩
  | succ j => simp at hv⟩
theorem RepL.append {a b : List Value} {x y : List D} (h : RepL V w Z a x) (k : RepL V w Z b y) : RepL V w Z (a ++ b) (x ++ y) := by
  refine ⟨by simp [h.1, k.1], fun j v d hv hd => ?_⟩
  by_cases e : j < a.length
  · rw [List.getElem?_append_left e] at hv
    rw [List.getElem?_append_left (by rw [← h.1]; exact e)] at hd
    exact h.2 j v d hv hd
  · rw [List.getElem?_append_right (by omega)] at hv
    rw [List.getElem?_append_right (by rw [← h.1]; omega), ← h.1] at hd
    exact k.2 _ v d hv hd

theorem elemOf_cells {n : Nat} {e : TypeId} {cs : List D} (h : HasT P n e cs) : (elemOf P e cs).cells = cs := by
  cases n with
  | zero => exact h.elim
  | succ n =>
    simp only [HasT] at h
    unfold elemOf
    split at h
    · rename_i hu; obtain ⟨b, rfl⟩ := h; simp only [hu]; rfl
    · rename_i hu; obtain ⟨b, rfl, _⟩ := h; simp only [hu]; rfl
    · rename_i hu; obtain ⟨b, rfl, _⟩ := h; simp only [hu]; rfl
    · rename_i hu; obtain ⟨b, rfl, _⟩ := h; simp only [hu]; rfl
    · rename_i hu; simp only [hu]; rfl
    · exact h.elim

theorem closedT_at {T : List TypeId} (h : closedT P T = true) {t : TypeId} (ht : t ∈ T) : (match P.underlying t with
  | some .bool | some (.int _) | some .string => P.cellsOf t == 1
  | some (.slice e) => P.cellsOf t == 1 && T.contains e && decide (0 < P.cellsOf e)
  | some (.struct fs) => fs.toList.all (fun f => T.contains f.type) && (contig P 0 fs.toList == some (P.cellsOf t))
  | _ => false) = true := List.all_eq_true.1 h t ht

theorem HasT.length {T : List TypeId} (hT : closedT P T = true) {n : Nat} {t : TypeId} (ht : t ∈ T) {ds : List D} (h : HasT P n t ds) : ds.length = P.cellsOf t := by
  have hc := closedT_at hT ht
  cases n with
  | zero => exact h.elim
  | succ n =>
    simp only [HasT] at h
    split at h
    · rename_i hu; obtain ⟨b, rfl⟩ := h; simp only [hu, beq_iff_eq] at hc; simp [hc]
    · rename_i hu; obtain ⟨b, rfl, _⟩ := h; simp only [hu, beq_iff_eq] at hc; simp [hc]
    · rename_i hu; obtain ⟨b, rfl, _⟩ := h; simp only [hu, beq_iff_eq] at hc; simp [hc]
    · rename_i hu; obtain ⟨b, rfl, _⟩ := h; simp only [hu, Bool.and_eq_true, beq_iff_eq] at hc; simp [hc.1.1]
    · exact h.1
    · exact h.elim

/-- A struct's fields, one behind the other. -/
theorem fields_rep {n : Nat} {cs : List Value} : ∀ (fs : List Field) (off fin : Nat), contig P off fs = some fin → fin ≤ cs.length →
    (∀ f ∈ fs, ∃ ds : List D, ds.length = P.cellsOf f.type ∧ HasT P n f.type ds ∧ RepL V w Z ((cs.drop f.offset).take (P.cellsOf f.type)) ds) →
    off ≤ fin ∧ ∃ ds : List D, ds.length = fin - off ∧ RepL V w Z ((cs.drop off).take (fin - off)) ds ∧ ∀ f ∈ fs, off ≤ f.offset ∧ HasT P n f.type ((ds.drop (f.offset - off)).take (P.cellsOf f.type))
  | [], off, fin, h, hl, _ => by
    simp only [contig, Option.some.injEq] at h
    subst h
    exact ⟨Nat.le_refl _, [], by simp, by rw [Nat.sub_self, List.take_zero]; exact RepL.nil, fun f hf => by simp at hf⟩
  | f :: fs, off, fin, h, hl, hx => by
    simp only [contig] at h
    split at h
    · rename_i ho
      obtain ⟨x, hxl, hxt, hxr⟩ := hx f (by simp)
      obtain ⟨h1, ds, h2, h3, h4⟩ := fields_rep fs _ fin h hl (fun g hg => hx g (by simp [hg]))
      rw [ho] at hxr
      have e : (cs.drop off).take (fin - off) = (cs.drop off).take (P.cellsOf f.type) ++ (cs.drop (off + P.cellsOf f.type)).take (fin - (off + P.cellsOf f.type)) := by
        have : fin - off = P.cellsOf f.type + (fin - (off + P.cellsOf f.type)) := by omega
        rw [this, List.take_add, List.drop_drop]
      refine ⟨by omega, x ++ ds, by simp [hxl, h2]; omega, by rw [e]; exact hxr.append h3, ?_⟩
      intro g hg
      rcases List.mem_cons.1 hg with rfl | hg
      · rw [ho, Nat.sub_self, List.drop_zero, List.take_append_of_le_length (by omega), List.take_of_length_le (by omega)]
        exact ⟨Nat.le_refl _, hxt⟩
      · obtain ⟨q1, q2⟩ := h4 g hg
        refine ⟨by omega, ?_⟩
        have : g.offset - off = x.length + (g.offset - (off + P.cellsOf f.type)) := by omega
        rw [this, List.drop_append]
        rw [List.drop_of_length_le (by omega), List.nil_append]
        have : x.length + (g.offset - (off + P.cellsOf f.type)) - x.length = g.offset - (off + P.cellsOf f.type) := by omega
        rw [this]; exact q2
    · cases h

theorem cells?_some {base : Nat} {a : Addr} {n : Nat} {cs : List Value} (h : w.cells? base a n = some cs) : cs.length = n ∧ ∀ i, i < n → w.cell? (a.add i) = cs[i]? := by
  unfold World.cells? at h
  split at h
  · refine ⟨by simpa using mapM_some_length h, fun i hi => ?_⟩
    exact mapM_some_get h i i (by simp [hi])
  · cases h

theorem cell_addr {a : Addr} {v : Value} (h : w.cell? a = some v) : a = ⟨a.block, a.off, none⟩ ∧ a.block < w.heap.size := by
  obtain ⟨b, o, s⟩ := a
  unfold World.cell? at h
  simp only at h
  split at h
  · rename_i hh
    split at h
    · cases h
    · rename_i hs
      have : s = none := by cases s with
        | none => rfl
        | some x => simp at hs
      subst this
      exact ⟨rfl, (Array.getElem?_eq_some_iff.1 hh).1⟩
  · cases h

variable {H : Type} {enc : TypeId × Value → H}

theorem trod_rep {T : List TypeId} (hT : closedT P T = true) (hZ : ∀ b, ¬ Z b) {base : Nat} {sp : Nat → Bool} {held : Bool} : ∀ (fuel : Nat) (t : TypeId) (cs : List Value) (x : DataW H × List MemPlace), t ∈ T →
    DataW.trod enc P w base sp held fuel t cs = some x → ∃ ds : List D, HasT P fuel t ds ∧ RepL V w Z cs ds
  | 0, _, _, _, _, h => by simp [DataW.trod] at h
  | fuel + 1, t, cs, x, ht, h => by
    have hc := closedT_at hT ht
    cases hu : P.underlying t with
    | none => simp only [hu] at hc; cases hc
    | some u =>
      cases u with
      | bool =>
        obtain ⟨b, rfl, _⟩ := DataW.trod_bool hu h
        exact ⟨[.bool b], by simp only [HasT, hu]; exact ⟨b, rfl⟩, .one (.bool b) rfl⟩
      | int k =>
        obtain ⟨n, rfl, _, hw⟩ := DataW.trod_int hu h
        exact ⟨[.int k n], by simp only [HasT, hu]; exact ⟨n, rfl, hw⟩, .one (.int k n) rfl⟩
      | string =>
        obtain ⟨s, rfl, _, hw⟩ := DataW.trod_string hu h
        exact ⟨[.str s], by simp only [HasT, hu]; exact ⟨s, rfl, hw⟩, .one (.str s) rfl⟩
      | slice e =>
        simp only [hu, Bool.and_eq_true, beq_iff_eq, decide_eq_true_eq, List.contains_iff_mem] at hc
        obtain ⟨⟨hc1, he⟩, hpos⟩ := hc
        rcases DataW.trod_slice hu h with ⟨rfl, _⟩ | ⟨a, len, cap, elems, rest, n, hn, rfl, _, hb, hlc, hcm, hel, hget, _⟩
        · exact ⟨[.slice []], by simp only [HasT, hu]; exact ⟨[], rfl, Nat.zero_le _, fun cs h => by simp at h⟩, .one (.empty none 0) rfl⟩
        · obtain rfl : n = fuel := by omega
          have hex : ∀ i, ∃ ds : List D, i < len → HasT P n e ds ∧ ∃ cs', w.cells? base (a.add (i * P.cellsOf e)) (P.cellsOf e) = some cs' ∧ RepL V w Z cs' ds := by
            intro i
            by_cases hi : i < len
            · have := hget i hi
              have hil : elems[i]? = some (elems[i]'(by omega)) := List.getElem?_eq_getElem (by omega)
              rw [hil, Option.bind_eq_some_iff] at this
              obtain ⟨cs', h1, h2⟩ := this
              obtain ⟨ds, h3, h4⟩ := trod_rep hT hZ n e cs' _ he h2
              exact ⟨ds, fun _ => ⟨h3, cs', h1, h4⟩⟩
            · exact ⟨[], fun h => absurd h hi⟩
          obtain ⟨f, hf⟩ := Classical.skolem.1 hex
          let ess : List (List D) := (List.range len).map f
          have hess : ∀ cs ∈ ess, HasT P n e cs := by
            intro cs hcs
            obtain ⟨i, hi, rfl⟩ := List.mem_map.1 hcs
            exact (hf i (List.mem_range.1 hi)).1
          have hesl : ess.length = len := by simp [ess]
          refine ⟨[.slice (ess.map (elemOf P e))], by simp only [HasT, hu]; exact ⟨ess, rfl, by omega, hess⟩, .one ?_ rfl⟩
          by_cases h0 : len = 0
          · have : ess = [] := List.length_eq_zero_iff.1 (by omega)
            rw [this, h0]; exact .empty _ _
          · have hlen : (ess.map (elemOf P e)).length = len := by simp [hesl]
            have hsz : ∀ x ∈ ess.map (elemOf P e), (D.cells x).length = P.cellsOf e := by
              intro x hx
              obtain ⟨cs, hcs, rfl⟩ := List.mem_map.1 hx
              rw [elemOf_cells (hess cs hcs)]
              exact (hess cs hcs).length hT he
            have hfl := flat_length hsz
            have hcell : ∀ i r, i < len → r < P.cellsOf e → ∃ v d, w.cell? ⟨a.block, a.off + (i * P.cellsOf e + r), none⟩ = some v ∧ (flat (ess.map (elemOf P e)))[i * P.cellsOf e + r]? = some d ∧ RepD V w Z v d ∧ v.oneCell' = true := by
              intro i r hi hr
              obtain ⟨h1, cs', h2, h3⟩ := hf i hi
              obtain ⟨h4, h5⟩ := cells?_some h2
              have h6 := h5 r hr
              rw [List.getElem?_eq_getElem (by omega)] at h6
              have hd : (f i)[r]? = some ((f i)[r]'(by rw [← h3.1]; omega)) := List.getElem?_eq_getElem _
              obtain ⟨h7, h8⟩ := h3.2 r _ _ (List.getElem?_eq_getElem (by omega)) hd
              refine ⟨_, _, ?_, ?_, h7, h8⟩
              · rw [← h6]
                have hh := (cell_addr h6).1
                congr 1
                rw [hh]
                have e1 : ((a.add (i * P.cellsOf e)).add r).block = a.block := by unfold Addr.add; split <;> split <;> rfl
                have e2 : ((a.add (i * P.cellsOf e)).add r).off = a.off + (i * P.cellsOf e + r) := by
                  have q : ∀ (b : Addr) (n : Nat), (b.add n).off = b.off + n := by
                    intro b n; unfold Addr.add; split
                    · rename_i h; subst h; rfl
                    · rfl
                  rw [q, q, Nat.add_assoc]
                rw [e1, e2]
              · rw [flat_get hsz i r (by omega) hr]
                have e3 : (ess.map (elemOf P e))[i]'(by omega) = elemOf P e (f i) := by simp [ess]
                rw [e3, elemOf_cells h1, hd]
            have hdiv : ∀ j, j < (flat (ess.map (elemOf P e))).length → j / P.cellsOf e < len ∧ j % P.cellsOf e < P.cellsOf e ∧ j / P.cellsOf e * P.cellsOf e + j % P.cellsOf e = j := by
              intro j hj
              rw [hfl, hlen] at hj
              exact ⟨(Nat.div_lt_iff_lt_mul hpos).2 hj, Nat.mod_lt _ hpos, by rw [Nat.mul_comm]; exact Nat.div_add_mod _ _⟩
            have hcell' : ∀ j (hj : j < (flat (ess.map (elemOf P e))).length), ∃ v, w.cell? ⟨a.block, a.off + j, none⟩ = some v ∧ RepD V w Z v (flat (ess.map (elemOf P e)))[j] ∧ v.oneCell' = true := by
              intro j hj
              obtain ⟨q1, q2, q3⟩ := hdiv j hj
              obtain ⟨v, d, r1, r2, r3, r4⟩ := hcell _ _ q1 q2
              rw [q3] at r1 r2
              rw [List.getElem?_eq_getElem hj, Option.some.injEq] at r2
              exact ⟨v, r1, by rw [r2]; exact r3, r4⟩
            have ha : a = ⟨a.block, a.off, none⟩ ∧ a.block < w.heap.size := by
              obtain ⟨_, cs', h2, h3⟩ := hf 0 (by omega)
              obtain ⟨h4, h5⟩ := cells?_some h2
              have h6 := h5 0 hpos
              rw [List.getElem?_eq_getElem (by omega)] at h6
              have e0 : (a.add (0 * P.cellsOf e)).add 0 = a := by rw [Nat.zero_mul]; rfl
              rw [e0] at h6
              exact cell_addr h6
            rw [ha.1]
            have := RepD.slice (V := V) (w := w) (Z := Z) a.block a.off cap (ess.map (elemOf P e)) (P.cellsOf e) (fun j => (w.cell? ⟨a.block, a.off + j, none⟩).getD undef) (by omega) (hZ _) ha.2 hsz
              (fun j hj => by obtain ⟨v, q, _⟩ := hcell' j hj; simp only [q, Option.getD_some])
              (fun j hj => by obtain ⟨v, q, _, q2⟩ := hcell' j hj; simp only [q, Option.getD_some]; exact q2)
              (fun j hj => by obtain ⟨v, q, q1, _⟩ := hcell' j hj; simp only [q, Option.getD_some]; exact q1)
            rw [hlen] at this
            exact this
      | struct fs =>
        simp only [hu, Bool.and_eq_true, beq_iff_eq, List.all_eq_true, List.contains_iff_mem] at hc
        obtain ⟨hcf, hct⟩ := hc
        obtain ⟨xs, n, hn, _, hcl, hxl, hf⟩ := DataW.trod_struct hu h
        obtain rfl : n = fuel := by omega
        have hall : ∀ f ∈ fs.toList, ∃ ds : List D, ds.length = P.cellsOf f.type ∧ HasT P n f.type ds ∧ RepL V w Z ((cs.drop f.offset).take (P.cellsOf f.type)) ds := by
          intro f hfm
          obtain ⟨i, hi⟩ := List.getElem?_of_mem hfm
          rw [Array.getElem?_toList] at hi
          have h1 := hf i f hi
          have hil : i < xs.length := by rw [hxl]; exact (Array.getElem?_eq_some_iff.1 hi).1
          rw [List.getElem?_eq_getElem hil] at h1
          obtain ⟨ds, h2, h3⟩ := trod_rep hT hZ n f.type _ _ (hcf f hfm) h1
          exact ⟨ds, h2.length hT (hcf f hfm), h2, h3⟩
        obtain ⟨_, ds, h1, h2, h3⟩ := fields_rep fs.toList 0 _ hct (by omega) hall
        rw [Nat.sub_zero] at h1 h2
        rw [List.drop_zero, List.take_of_length_le (by omega)] at h2
        refine ⟨ds, ?_, h2⟩
        simp only [HasT, hu]
        refine ⟨h1, fun i f hi => ?_⟩
        have := (h3 f (by rw [Array.mem_toList_iff]; exact Array.mem_of_getElem? hi)).2
        rwa [Nat.sub_zero] at this
      | _ => simp only [hu] at hc; cases hc
end
end Go.Aug

/-
  The abstract layer, part X: what is handed back out of a variable. (LiveT has these lines, too: never both in one claim.)
-/
namespace Go.Aug

/- What is handed back out of a variable. -/
def resD : Option AObj → Nat → Option (Bool × Nat) → Option A
  | some (.var cs), off, some (true, n) => if off + n ≤ cs.length then some (aggN ((cs.drop off).take n)) else none
  | some (.var cs), off, some (false, _) => cs[off]?
  | _, _, _ => none
def resC : A → Heap → Option (Bool × Nat) → Option A
  | .ref b off, H, s => resD (H b) off s
  | _, _, _ => none
@[go_sem] theorem resOf_cell {P : Program} {V : Env} {N : Nat} {F : Nat → A} {H : Heap} {a : Nat} {t : TypeId} : resOf P V N F H (.cell a t) = resC (ev V N F (.tmp a)) H (tshape P t) := by
  simp only [resOf]
  generalize ev V N F (.tmp a) = x
  cases x with
  | ref b off =>
    simp only [resC]
    generalize H b = o
    cases o with
    | none => rfl
    | some o =>
      cases o with
      | var cs =>
        cases tshape P t with
        | none => rfl
        | some s => obtain ⟨g, n⟩ := s; cases g <;> rfl
      | _ => rfl
  | _ => rfl
@[go_sem] theorem resC_ref {b off : Nat} {H : Heap} {s : Option (Bool × Nat)} : resC (.ref b off) H s = resD (H b) off s := Eq.trans rfl rfl
@[go_sem] theorem resD_agg {cs : List A} {off n : Nat} (h : off + n ≤ cs.length) : resD (some (.var cs)) off (some (true, n)) = some (aggN ((cs.drop off).take n)) := if_pos h
@[go_sem] theorem resD_one {cs : List A} {off n : Nat} : resD (some (.var cs)) off (some (false, n)) = cs[off]? := Eq.trans rfl rfl

end Go.Aug

/-
  The abstract layer: calls whose world behind is known to be no other below; functions that defer one closure.
-/
namespace Go.Aug
open Go.RowKit

section
variable {P : Program} {V : Env} {N : Nat} {Z : Nat → Prop} {H : Heap} {w w' : World}

theorem Mem.below (m : Mem V Z H w) (b : Below w.heap.size w w') : Mem V Z H w' ∧ Ext Z H w Z H w' := by
  have k : Keeps Z w Z w' := ⟨b.size, fun i hi _ => b.block i hi, fun _ _ h h' => h h'⟩
  refine ⟨⟨fun i o ho => (m.heap i o ho).keep k fun hw => ⟨m.own i ⟨o, ho, hw⟩, b.block i (m.lt i o ho)⟩, fun i hi => Nat.lt_of_lt_of_le (m.zlt i hi) b.size, m.env.keep k, fun i o ho => Nat.lt_of_lt_of_le (m.lt i o ho) b.size⟩, ?_⟩
  exact ⟨b.os, b.tape, b.output, b.size, fun i hi _ => b.block i hi, fun i hi => .inl hi, fun i hi _ => hi, fun i hi => .inl hi⟩

/-- What is called with nothing at hand leaves what is at hand. -/
theorem ACall.keep {f : FuncId} {args : List A} {K : A → Prop} (h : ACall P V f args (fun _ => none) (fun r _ => K r)) : ACall P V f args H (fun r H' => K r ∧ H' = H) := by
  intro Z w cv hl hr m
  have no : ∀ b, ¬ Own (fun _ => none) b := fun b ⟨o, ho, _⟩ => by cases ho
  refine (h Z w cv hl hr (m.le fun b o hb => by cases hb)).mono ?_
  rintro e w' ⟨v, r, Z', H', rfl, rr, m', x', k⟩
  have kk : Keeps Z w Z' w' := x'.keeps (fun b hb => (no b hb).elim)
  refine ⟨v, r, Z', H, rfl, rr, ⟨?_, m'.zlt, m'.env, fun b o hb => Nat.lt_of_lt_of_le (m.lt b o hb) x'.size⟩, ?_, k, rfl⟩
  · intro b o hb
    exact (m.heap b o hb).keep kk fun hw => ⟨x'.zold b (m.own b ⟨o, hb, hw⟩) (no b), x'.block b (m.lt b o hb) (no b)⟩
  · exact ⟨x'.os, x'.tape, x'.output, x'.size, fun b hb _ => x'.block b hb (no b), x'.znew, fun b hz _ => x'.zold b hz (no b), fun b hb => .inl hb⟩

/-- A closure that, where the frame below returns, does nothing that is seen. -/
def IdleD (P : Program) (k : Nat) (g : FuncId) : Prop := ∀ (cv : Array Value) (w : World), cv.size = k → CallsD P g cv .returning w fun e u w' => e = .returned (.tuple #[]) ∧ u = .returning ∧ Below w.heap.size w w'

theorem toS_seq {plans : Nat → Plan} {keeps : Nat → Option (List Nat)} {c : Code} {x y : SCode} (h : toS plans keeps c = .seq x y) : ∃ a b, c = .seq a b ∧ toS plans keeps a = x ∧ toS plans keeps b = y := by
  cases c with
  | seq a b => simp only [toS, SCode.seq.injEq] at h; exact ⟨a, b, rfl, h.1, h.2⟩
  | region id ops g => cases g <;> simp [toS] at h
  | _ => simp [toS] at h
theorem toS_reg {plans : Nat → Plan} {keeps : Nat → Option (List Nat)} {c : Code} {k : Option (List Nat)} {l : List SOper} (h : toS plans keeps c = .reg k l) : ∃ id ops, c = .region id ops false ∧ ops.toList.map (short ops) = l := by
  cases c with
  | region id ops g =>
    cases g with
    | false => simp only [toS, SCode.reg.injEq] at h; exact ⟨id, ops, rfl, h.2⟩
    | true => simp [toS] at h
  | seq a b => simp [toS] at h
  | _ => simp [toS] at h

theorem St.defer {ds : List Deferred} {F : Nat → A} {a : Act} (s : St V N ds Z F H a w) (d : Deferred) : St V N (d :: ds) Z F H { a with defers := d :: a.defers } w :=
  ⟨by simp [s.defers], s.size, s.slots, s.mem⟩

/-- The stretch that makes the closure and defers it. -/
theorem wp_defer {ds : List Deferred} {F : Nat → A} {a : Act} {id g s : Nat} {ops : Array Oper} {caps : Array Operand} {Q : Exit → Act → World → Prop} (st : St V N ds Z F H a w) (hs : s < N)
    (ho : ops.toList.map (short ops) = [{ dst := some s, gd := none, op := .makeFunc (.func g) #[] caps }, { dst := none, gd := none, op := .defer { callee := .value (.tmp s), args := #[], argTypes := #[] } }])
    (hq : ∀ a' cv, cv.size = caps.size → St V N ({ target := .fn (.func g) cv, args := #[] } :: ds) Z (updF F s (.func g (caps.toList.map (ev V N F)))) H a' w → Q .normal a' w) : (Code.region id ops false).wp P Q a w := by
  obtain ⟨l⟩ := ops
  match l, ho with
  | [o1, o2], ho =>
    simp only [List.map_cons, List.map_nil, List.cons.injEq, and_true, short, SOper.mk.injEq] at ho
    obtain ⟨⟨h1, h2, h3⟩, h4, h5, h6⟩ := ho
    have g1 : o1.guard = none := by simpa using h2
    have g2 : o2.guard = none := by simpa using h5
    refine wp_region ?_
    have hr : List.range (#[o1, o2] : Array Oper).size = [0, 1] := rfl
    have e0 : (#[o1, o2] : Array Oper)[0]? = some o1 := rfl
    have e1 : (#[o1, o2] : Array Oper)[1]? = some o2 := rfl
    rw [hr]
    have w1 : ∀ y, Region.wanted o1 y = true := fun y => by unfold Region.wanted; rw [g1]
    have w2 : ∀ y, Region.wanted o2 y = true := fun y => by unfold Region.wanted; rw [g2]
    simp only [wpOps, e0, e1, w1, w2, if_true]
    left
    have hl := ev_list st caps.toList
    have rf : RepA V w Z (.func (.func g) #[] (caps.toList.map a.eval).toArray) (.func g (caps.toList.map (ev V N F))) := .func g _ _ hl.1 hl.2
    have k := st.mem.keeps (Ext.refl Z H w)
    have s1 := st.put (o := some s) k st.mem rf
    refine upon_ok (u := .func (.func g) #[] (caps.toList.map a.eval).toArray) (s := pure (.func (.func g) #[] (caps.toList.map a.eval).toArray)) ?_ rfl ?_
    · have : caps.map a.eval = (caps.toList.map a.eval).toArray := by cases caps; simp
      unfold execOp
      rw [h3]
      simp [Instr.makeFunc, this]
    rw [h1]
    left
    have ev1 : (a.put (some s) (.func (.func g) #[] (caps.toList.map a.eval).toArray)).eval (.tmp s) = .func (.func g) #[] (caps.toList.map a.eval).toArray := by
      have hsz : s < a.tmps.size := by rw [st.size]; exact hs
      simp [Act.put, Act.eval, hsz]
    unfold Oper.wp
    have hx : (execOp (a.put (some s) (.func (.func g) #[] (caps.toList.map a.eval).toArray)).eval o2).run P w = .ok (.defer { target := .fn (.func g) (caps.toList.map a.eval).toArray, args := #[] }) w := by
      unfold execOp
      rw [h6]
      simp [resolve, ev1, Deferred.ofValue]
    rw [hx, Oper.upon_defer, h4]
    exact hq _ _ (by simp) (s1.defer _)
  | [], ho => simp at ho
  | [_], ho => simp at ho
  | _ :: _ :: _ :: _, ho => simp at ho

theorem Leaves.fin {fn : Func} {ds : List Deferred} {a' : Act} {F : Nat → A} {rs : List ResultVar} {K : A → Heap → Prop} {w0 : World} {Z0 : Nat → Prop} {H0 : Heap} (m0 : Mem V Z0 H0 w0) (hrs : fn.results.toList = rs) (st : St V N ds Z F H a' w) (x : Ext Z0 H0 w0 Z H w)
    (q : ∃ l, resAll P V N F H rs = some l ∧ retW V (tupled l) H K)
    (hds : ds = [] ∨ ∃ g cv, IdleD P cv.size g ∧ (∀ w1, (invoke (.fn (.func g) cv) #[]).run P w1 = .ok (.enter g cv) w1) ∧ ds = [{ target := .fn (.func g) cv, args := #[] }]) :
    Leaves P fn a'.tmps (fun e w' => ∃ v r Z' H', e = .returned v ∧ RepA V w' Z' v r ∧ Mem V Z' H' w' ∧ Ext Z0 H0 w0 Z' H' w' ∧ K r H') ds .returning w := by
  obtain ⟨l, hl, hret⟩ := q
  have fin : ∀ w1, (∀ i, i < N → RepA V w1 Z (a'.tmps.getD i undef) (F i)) → Mem V Z H w1 → Ext Z0 H0 w0 Z H w1 → ∃ v, (results fn a'.tmps).run P w1 = .ok v w1 ∧ ∃ u r Z' H', Ending.returned v = .returned u ∧ RepA V w1 Z' u r ∧ Mem V Z' H' w1 ∧ Ext Z0 H0 w0 Z' H' w1 ∧ K r H' := by
    intro w1 hs1 m1 x1
    have st1 : St V N ds Z F H a' w1 := ⟨st.defers, st.size, hs1, m1⟩
    obtain ⟨v, hv, rv⟩ := results_sound (fn := fn) st1 (by rw [hrs]; exact hl)
    obtain ⟨r', Z2, H'', r2, m2, x2, hK⟩ := hret Z w1 v rv m1
    exact ⟨v, hv, v, r', Z2, H'', rfl, r2, m2, x1.trans m0.zlt x2, hK⟩
  rcases hds with rfl | ⟨g, cv, idle, hi, rfl⟩
  · exact fin w st.slots st.mem x
  · refine leaves_cons (by simp) (hi w) ((idle cv w rfl).mono ?_)
    rintro e u w1 ⟨rfl, rfl, hb⟩
    obtain ⟨m1, x1⟩ := st.mem.below hb
    exact fin w1 (fun i hi => (st.slots i hi).keep (st.mem.keeps x1)) m1 (x.trans m0.zlt x1)

/-- A call of a function that defers one closure, which is idle where the function returns. -/
theorem ACall.deferred {f g s : Nat} {rs : List ResultVar} {X1 X2 X3 X4 : SCode} {kk : Option (List Nat)} {caps : Array Operand} {args : List A} {K : A → Heap → Prop} (hm : P.follows .mixedOrders = true)
    (hf : FnIs P f N rs (.seq X1 (.seq X2 (.seq X3 (.seq (.reg kk [{ dst := some s, gd := none, op := .makeFunc (.func g) #[] caps }, { dst := none, gd := none, op := .defer { callee := .value (.tmp s), args := #[], argTypes := #[] } }]) X4)))))
    (hn : args.length ≤ N) (hs : s < N) (hi : ∀ cv w1, (invoke (.fn (.func g) cv) #[]).run P w1 = .ok (.enter g cv) w1) (idle : IdleD P caps.size g)
    (h : svc P V N (.seq X1 (.seq X2 X3)) (fun e F H => match e with
      | .normal => svc P V N X4 (sret P V N rs K) (updF F s (.func g (caps.toList.map (ev V N F)))) H
      | e => sret P V N rs K e F H) (argsF args) H) : ACall P V f args H K := by
  obtain ⟨fn, plans, keeps, c, h1, rfl, hrs, h4, h5, h6⟩ := hf
  obtain ⟨c1, r1, rfl, e1, h6⟩ := toS_seq h6
  obtain ⟨c2, r2, rfl, e2, h6⟩ := toS_seq h6
  obtain ⟨c3, r3, rfl, e3, h6⟩ := toS_seq h6
  obtain ⟨c4, c5, rfl, e4, e5⟩ := toS_seq h6
  obtain ⟨id, ops, rfl, e6⟩ := toS_reg e4
  simp only [codeOK, Bool.and_eq_true] at h5
  obtain ⟨k1, k2, k3, k4, k5⟩ := h5
  subst e1 e2 e3 e5
  intro Z w cv hl hr m
  refine calls_of_wp_defers h1 h4 ?_
  have st : St V fn.ntmps [] Z (argsF args) H { tmps := cv.toArray ++ Array.replicate (fn.ntmps - cv.toArray.size) undef, defers := [] } w := by
    refine ⟨rfl, by simp; omega, ?_, m⟩
    intro i hi
    rw [Array.getD_eq_getD_getElem?, Array.getElem?_append]
    simp only [argsF, List.getD]
    by_cases e : i < cv.length
    · have e' : i < args.length := by omega
      simp only [List.size_toArray, e, if_true, List.getElem?_toArray, List.getElem?_eq_getElem e, List.getElem?_eq_getElem e', Option.getD_some]
      exact hr i e e'
    · rw [List.getElem?_eq_none (show args.length ≤ i by omega)]
      exact .undef _
  -- what stands behind the early pieces' other ways out
  have out : ∀ (ds : List Deferred) {e : Exit} {F' : Nat → A} {H' : Heap} {Z' : Nat → Prop} {a' : Act} {w' : World}, St V fn.ntmps ds Z' F' H' a' w' → Ext Z H w Z' H' w' →
      (ds = [] ∨ ∃ g cv, IdleD P cv.size g ∧ (∀ w1, (invoke (.fn (.func g) cv) #[]).run P w1 = .ok (.enter g cv) w1) ∧ ds = [{ target := .fn (.func g) cv, args := #[] }]) →
      sret P V fn.ntmps rs K e F' H' → bodyPostD P fn (fun e w' => ∃ v r Z' H', e = .returned v ∧ RepA V w' Z' v r ∧ Mem V Z' H' w' ∧ Ext Z H w Z' H' w' ∧ K r H') e a' w' := by
    intro ds e F' H' Z' a' w' st' x' hds q
    have key : (match resAll P V fn.ntmps F' H' rs with | some r => retW V (tupled r) H' K | none => False) → Leaves P fn a'.tmps (fun e w' => ∃ v r Z' H', e = .returned v ∧ RepA V w' Z' v r ∧ Mem V Z' H' w' ∧ Ext Z H w Z' H' w' ∧ K r H') a'.defers .returning w' := by
      intro q
      split at q
      · rename_i l hl
        rw [st'.defers]
        exact Leaves.fin m hrs st' x' ⟨l, hl, q⟩ hds
      · exact q.elim
    cases e with
    | normal => exact key q
    | ret => exact key q
    | _ => exact q.elim
  simp only [svc] at h
  refine wp_seq (wp_mono (svc_sound hm c1 k1 h [] Z _ w st) ?_)
  rintro e a1 w1 ⟨Z1, F1, H1, st1, x1, q⟩
  cases e with
  | normal =>
    refine wp_seq (wp_mono (svc_sound hm c2 k2 q [] Z1 _ w1 st1) ?_)
    rintro e a2 w2 ⟨Z2, F2, H2, st2, x2, q⟩
    have x12 := x1.trans m.zlt x2
    cases e with
    | normal =>
      refine wp_seq (wp_mono (svc_sound hm c3 k3 q [] Z2 _ w2 st2) ?_)
      rintro e a3 w3 ⟨Z3, F3, H3, st3, x3, q⟩
      have x13 := x12.trans m.zlt x3
      cases e with
      | normal =>
        refine wp_seq (wp_defer st3 hs e6 ?_)
        intro a4 cv4 hcv4 st4
        refine wp_mono (svc_sound hm c5 k5 q _ Z3 a4 w3 st4) ?_
        rintro e a5 w5 ⟨Z5, F5, H5, st5, x5, q⟩
        exact out _ st5 (x13.trans m.zlt x5) (.inr ⟨g, cv4, by rw [hcv4]; exact idle, hi cv4, rfl⟩) q
      | ret => exact out [] (e := .ret) st3 x13 (.inl rfl) q
      | _ => exact q.elim
    | ret => exact out [] (e := .ret) st2 x12 (.inl rfl) q
    | _ => exact q.elim
  | ret => exact out [] (e := .ret) st1 x1 (.inl rfl) q
  | _ => exact q.elim
end
end Go.Aug

/-
  The abstract layer: what is read as data is a deep value of its type's shape, and no larger than the reading (a measure of the reading that counts each value and each letter).
-/
namespace Go.Aug

mutual
def D.size : D → Nat
  | .str s => s.size + 1
  | .slice es => D.sizes es + 1
  | .agg cs => D.sizes cs + 1
  | _ => 1
def D.sizes : List D → Nat
  | [] => 0
  | d :: r => D.size d + D.sizes r
end
theorem D.sizes_append : ∀ (a b : List D), D.sizes (a ++ b) = D.sizes a + D.sizes b
  | [], b => by simp [D.sizes]
  | x :: a, b => by simp only [List.cons_append, D.sizes, D.sizes_append a b]; omega
theorem D.one_le : ∀ d : D, 1 ≤ d.size
  | .bool _ | .int _ _ | .sent _ | .raw _ => by simp [D.size]
  | .str _ | .slice _ | .agg _ => by simp [D.size]
theorem D.length_le : ∀ l : List D, l.length ≤ D.sizes l
  | [] => by simp [D.sizes]
  | d :: l => by have := D.one_le d; have := D.length_le l; simp only [List.length_cons, D.sizes]; omega
theorem D.mem_le : ∀ {l : List D} {d : D}, d ∈ l → d.size ≤ D.sizes l
  | x :: l, d, h => by
    rcases List.mem_cons.1 h with rfl | h
    · simp only [D.sizes]; omega
    · have := D.mem_le h; simp only [D.sizes]; omega
theorem D.sizes_le : ∀ (l : List D) (bs : List Nat), l.length = bs.length → (∀ (i : Nat) (d : D) (k : Nat), l[i]? = some d → bs[i]? = some k → d.size ≤ k) → D.sizes l ≤ bs.sum
  | [], _, _, _ => by simp [D.sizes]
  | x :: l, [], h, _ => by simp at h
  | x :: l, k :: bs, h, hh => by
    have h1 := hh 0 x k rfl rfl
    have h2 := D.sizes_le l bs (by simpa using h) (fun i d k hd hk => hh (i + 1) d k (by simpa using hd) (by simpa using hk))
    simp only [D.sizes, List.sum_cons]; omega

/-- A measure of readings: it counts each value and each letter. -/
structure Meas {H : Type} (f : DataW H → Nat) : Prop where
  lit : ∀ l, 1 ≤ f (.lit l)
  str : ∀ s, s.length + 1 ≤ f (.lit (.string s))
  nil : 1 ≤ f .nil
  slice : ∀ es sp, (es.map f).sum + 1 ≤ f (.slice es sp)
  agg : ∀ ps, (ps.map f).sum + 1 ≤ f (.agg ps)

section
variable {V : Env} {w : World} {Z : Nat → Prop} {P : Program}

theorem sizes_elemOf {n : Nat} {e : TypeId} {cs : List D} (h : HasT P n e cs) : D.sizes cs ≤ (elemOf P e cs).size := by
  cases n with
  | zero => exact h.elim
  | succ n =>
    simp only [HasT] at h
    unfold elemOf
    split at h
    · rename_i hu; obtain ⟨b, rfl⟩ := h; simp only [hu]; simp [D.sizes]
    · rename_i hu; obtain ⟨b, rfl, _⟩ := h; simp only [hu]; simp [D.sizes]
    · rename_i hu; obtain ⟨b, rfl, _⟩ := h; simp only [hu]; simp [D.sizes]
    · rename_i hu; obtain ⟨b, rfl, _⟩ := h; simp only [hu]; simp [D.sizes]
    · rename_i hu; simp only [hu]; simp only [D.size]; omega
    · exact h.elim

/-- A struct's fields, one behind the other. -/
theorem fields_repB {n : Nat} {cs : List Value} : ∀ (fs : List Field) (bs : List Nat) (off fin : Nat), contig P off fs = some fin → fin ≤ cs.length → bs.length = fs.length →
    (∀ (i : Nat) (f : Field) (k : Nat), fs[i]? = some f → bs[i]? = some k → ∃ ds : List D, ds.length = P.cellsOf f.type ∧ HasT P n f.type ds ∧ RepL V w Z ((cs.drop f.offset).take (P.cellsOf f.type)) ds ∧ D.sizes ds ≤ k) →
    off ≤ fin ∧ ∃ ds : List D, ds.length = fin - off ∧ RepL V w Z ((cs.drop off).take (fin - off)) ds ∧ (∀ f ∈ fs, off ≤ f.offset ∧ HasT P n f.type ((ds.drop (f.offset - off)).take (P.cellsOf f.type))) ∧ D.sizes ds ≤ bs.sum
  | [], bs, off, fin, h, hl, _, _ => by
    simp only [contig, Option.some.injEq] at h
    subst h
    exact ⟨Nat.le_refl _, [], by simp, by rw [Nat.sub_self, List.take_zero]; exact RepL.nil, (fun f hf => by simp at hf), by simp [D.sizes]⟩
  | f :: fs, [], off, fin, h, hl, hb, hx => by simp at hb
  | f :: fs, k :: bs, off, fin, h, hl, hb, hx => by
    simp only [contig] at h
    split at h
    · rename_i ho
      obtain ⟨x, hxl, hxt, hxr, hxk⟩ := hx 0 f k rfl rfl
      obtain ⟨h1, ds, h2, h3, h4, h5⟩ := fields_repB fs bs _ fin h hl (by simpa using hb) (fun i g k hg hk => hx (i + 1) g k (by simpa using hg) (by simpa using hk))
      rw [ho] at hxr
      have e : (cs.drop off).take (fin - off) = (cs.drop off).take (P.cellsOf f.type) ++ (cs.drop (off + P.cellsOf f.type)).take (fin - (off + P.cellsOf f.type)) := by
        have : fin - off = P.cellsOf f.type + (fin - (off + P.cellsOf f.type)) := by omega
        rw [this, List.take_add, List.drop_drop]
      refine ⟨by omega, x ++ ds, by simp [hxl, h2]; omega, by rw [e]; exact hxr.append h3, ?_, by rw [D.sizes_append, List.sum_cons]; omega⟩
      intro g hg
      rcases List.mem_cons.1 hg with rfl | hg
      · rw [ho, Nat.sub_self, List.drop_zero, List.take_append_of_le_length (by omega), List.take_of_length_le (by omega)]
        exact ⟨Nat.le_refl _, hxt⟩
      · obtain ⟨q1, q2⟩ := h4 g hg
        refine ⟨by omega, ?_⟩
        have : g.offset - off = x.length + (g.offset - (off + P.cellsOf f.type)) := by omega
        rw [this, List.drop_append]
        rw [List.drop_of_length_le (by omega), List.nil_append]
        have : x.length + (g.offset - (off + P.cellsOf f.type)) - x.length = g.offset - (off + P.cellsOf f.type) := by omega
        rw [this]; exact q2
    · cases h

variable {H : Type} {enc : TypeId × Value → H} {f : DataW H → Nat}

theorem trod_repB (hf : Meas f) {T : List TypeId} (hT : closedT P T = true) (hZ : ∀ b, ¬ Z b) {base : Nat} {sp : Nat → Bool} {held : Bool} : ∀ (fuel : Nat) (t : TypeId) (cs : List Value) (x : DataW H × List MemPlace), t ∈ T →
    DataW.trod enc P w base sp held fuel t cs = some x → ∃ ds : List D, HasT P fuel t ds ∧ RepL V w Z cs ds ∧ (elemOf P t ds).size ≤ f x.1
  | 0, _, _, _, _, h => by simp [DataW.trod] at h
  | fuel + 1, t, cs, x, ht, h => by
    have hc := closedT_at hT ht
    cases hu : P.underlying t with
    | none => simp only [hu] at hc; cases hc
    | some u =>
      cases u with
      | bool =>
        obtain ⟨b, rfl, rfl⟩ := DataW.trod_bool hu h
        exact ⟨[.bool b], by simp only [HasT, hu]; exact ⟨b, rfl⟩, .one (.bool b) rfl, by simp only [elemOf, hu]; exact hf.lit _⟩
      | int k =>
        obtain ⟨n, rfl, rfl, hw⟩ := DataW.trod_int hu h
        exact ⟨[.int k n], by simp only [HasT, hu]; exact ⟨n, rfl, hw⟩, .one (.int k n) rfl, by simp only [elemOf, hu]; exact hf.lit _⟩
      | string =>
        obtain ⟨s, rfl, rfl, hw⟩ := DataW.trod_string hu h
        exact ⟨[.str s], by simp only [HasT, hu]; exact ⟨s, rfl, hw⟩, .one (.str s) rfl, by simp only [elemOf, hu]; have := hf.str s.data.toList; simpa [D.size] using this⟩
      | slice e =>
        simp only [hu, Bool.and_eq_true, beq_iff_eq, decide_eq_true_eq, List.contains_iff_mem] at hc
        obtain ⟨⟨hc1, he⟩, hpos⟩ := hc
        rcases DataW.trod_slice hu h with ⟨rfl, rfl⟩ | ⟨a, len, cap, elems, rest, n, hn, rfl, rfl, hb, hlc, hcm, hel, hget, _⟩
        · exact ⟨[.slice []], by simp only [HasT, hu]; exact ⟨[], rfl, Nat.zero_le _, fun cs h => by simp at h⟩, .one (.empty none 0) rfl, by simp only [elemOf, hu]; exact hf.nil⟩
        · obtain rfl : n = fuel := by omega
          have hex : ∀ i, ∃ ds : List D, i < len → HasT P n e ds ∧ ∃ cs', w.cells? base (a.add (i * P.cellsOf e)) (P.cellsOf e) = some cs' ∧ RepL V w Z cs' ds ∧ ∃ x, elems[i]? = some x ∧ (elemOf P e ds).size ≤ f x.1 := by
            intro i
            by_cases hi : i < len
            · have := hget i hi
              have hil : elems[i]? = some (elems[i]'(by omega)) := List.getElem?_eq_getElem (by omega)
              rw [hil, Option.bind_eq_some_iff] at this
              obtain ⟨cs', h1, h2⟩ := this
              obtain ⟨ds, h3, h4, h5⟩ := trod_repB hf hT hZ n e cs' _ he h2
              exact ⟨ds, fun _ => ⟨h3, cs', h1, h4, _, hil, h5⟩⟩
            · exact ⟨[], fun h => absurd h hi⟩
          obtain ⟨ff, hff⟩ := Classical.skolem.1 hex
          let ess : List (List D) := (List.range len).map ff
          have hess : ∀ cs ∈ ess, HasT P n e cs := by
            intro cs hcs
            obtain ⟨i, hi, rfl⟩ := List.mem_map.1 hcs
            exact (hff i (List.mem_range.1 hi)).1
          have hesl : ess.length = len := by simp [ess]
          refine ⟨[.slice (ess.map (elemOf P e))], by simp only [HasT, hu]; exact ⟨ess, rfl, by omega, hess⟩, .one ?_ rfl, ?hsize⟩
          case hsize =>
            simp only [elemOf, hu, List.headD_cons, D.size]
            refine Nat.le_trans ?_ (hf.slice _ _)
            have hle : D.sizes (ess.map (elemOf P e)) ≤ ((elems.map (·.1)).map f).sum := by
              refine D.sizes_le _ _ (by simp [hesl, hel]) (fun i d k hd hk => ?_)
              have hi : i < len := by have := (List.getElem?_eq_some_iff.1 hd).1; simpa [hesl] using this
              obtain ⟨_, _, _, _, x, hx, hs⟩ := hff i hi
              simp only [List.getElem?_map, hx, Option.map_some, Option.some.injEq] at hk
              simp only [ess, List.getElem?_map, List.getElem?_range hi, Option.map_some, Option.some.injEq] at hd
              subst hd hk
              exact hs
            omega
          by_cases h0 : len = 0
          · have : ess = [] := List.length_eq_zero_iff.1 (by omega)
            rw [this, h0]; exact .empty _ _
          · have hlen : (ess.map (elemOf P e)).length = len := by simp [hesl]
            have hsz : ∀ x ∈ ess.map (elemOf P e), (D.cells x).length = P.cellsOf e := by
              intro x hx
              obtain ⟨cs, hcs, rfl⟩ := List.mem_map.1 hx
              rw [elemOf_cells (hess cs hcs)]
              exact (hess cs hcs).length hT he
            have hfl := flat_length hsz
            have hcell : ∀ i r, i < len → r < P.cellsOf e → ∃ v d, w.cell? ⟨a.block, a.off + (i * P.cellsOf e + r), none⟩ = some v ∧ (flat (ess.map (elemOf P e)))[i * P.cellsOf e + r]? = some d ∧ RepD V w Z v d ∧ v.oneCell' = true := by
              intro i r hi hr
              obtain ⟨h1, cs', h2, h3, _⟩ := hff i hi
              obtain ⟨h4, h5⟩ := cells?_some h2
              have h6 := h5 r hr
              rw [List.getElem?_eq_getElem (by omega)] at h6
              have hd : (ff i)[r]? = some ((ff i)[r]'(by rw [← h3.1]; omega)) := List.getElem?_eq_getElem _
              obtain ⟨h7, h8⟩ := h3.2 r _ _ (List.getElem?_eq_getElem (by omega)) hd
              refine ⟨_, _, ?_, ?_, h7, h8⟩
              · rw [← h6]
                have hh := (cell_addr h6).1
                congr 1
                rw [hh]
                have e1 : ((a.add (i * P.cellsOf e)).add r).block = a.block := by unfold Addr.add; split <;> split <;> rfl
                have e2 : ((a.add (i * P.cellsOf e)).add r).off = a.off + (i * P.cellsOf e + r) := by
                  have q : ∀ (b : Addr) (n : Nat), (b.add n).off = b.off + n := by
                    intro b n; unfold Addr.add; split
                    · rename_i h; subst h; rfl
                    · rfl
                  rw [q, q, Nat.add_assoc]
                rw [e1, e2]
              · rw [flat_get hsz i r (by omega) hr]
                have e3 : (ess.map (elemOf P e))[i]'(by omega) = elemOf P e (ff i) := by simp [ess]
                rw [e3, elemOf_cells h1, hd]
            have hdiv : ∀ j, j < (flat (ess.map (elemOf P e))).length → j / P.cellsOf e < len ∧ j % P.cellsOf e < P.cellsOf e ∧ j / P.cellsOf e * P.cellsOf e + j % P.cellsOf e = j := by
              intro j hj
              rw [hfl, hlen] at hj
              exact ⟨(Nat.div_lt_iff_lt_mul hpos).2 hj, Nat.mod_lt _ hpos, by rw [Nat.mul_comm]; exact Nat.div_add_mod _ _⟩
            have hcell' : ∀ j (hj : j < (flat (ess.map (elemOf P e))).length), ∃ v, w.cell? ⟨a.block, a.off + j, none⟩ = some v ∧ RepD V w Z v (flat (ess.map (elemOf P e)))[j] ∧ v.oneCell' = true := by
              intro j hj
              obtain ⟨q1, q2, q3⟩ := hdiv j hj
              obtain ⟨v, d, r1, r2, r3, r4⟩ := hcell _ _ q1 q2
              rw [q3] at r1 r2
              rw [List.getElem?_eq_getElem hj, Option.some.injEq] at r2
              exact ⟨v, r1, by rw [r2]; exact r3, r4⟩
            have ha : a = ⟨a.block, a.off, none⟩ ∧ a.block < w.heap.size := by
              obtain ⟨_, cs', h2, h3, _⟩ := hff 0 (by omega)
              obtain ⟨h4, h5⟩ := cells?_some h2
              have h6 := h5 0 hpos
              rw [List.getElem?_eq_getElem (by omega)] at h6
              have e0 : (a.add (0 * P.cellsOf e)).add 0 = a := by rw [Nat.zero_mul]; rfl
              rw [e0] at h6
              exact cell_addr h6
            rw [ha.1]
            have := RepD.slice (V := V) (w := w) (Z := Z) a.block a.off cap (ess.map (elemOf P e)) (P.cellsOf e) (fun j => (w.cell? ⟨a.block, a.off + j, none⟩).getD undef) (by omega) (hZ _) ha.2 hsz
              (fun j hj => by obtain ⟨v, q, _⟩ := hcell' j hj; simp only [q, Option.getD_some])
              (fun j hj => by obtain ⟨v, q, _, q2⟩ := hcell' j hj; simp only [q, Option.getD_some]; exact q2)
              (fun j hj => by obtain ⟨v, q, q1, _⟩ := hcell' j hj; simp only [q, Option.getD_some]; exact q1)
            rw [hlen] at this
            exact this
      | struct fs =>
        simp only [hu, Bool.and_eq_true, beq_iff_eq, List.all_eq_true, List.contains_iff_mem] at hc
        obtain ⟨hcf, hct⟩ := hc
        obtain ⟨xs, n, hn, rfl, hcl, hxl, hff⟩ := DataW.trod_struct hu h
        obtain rfl : n = fuel := by omega
        have hall : ∀ (i : Nat) (g : Field) (k : Nat), fs.toList[i]? = some g → ((xs.map (·.1)).map f)[i]? = some k → ∃ ds : List D, ds.length = P.cellsOf g.type ∧ HasT P n g.type ds ∧ RepL V w Z ((cs.drop g.offset).take (P.cellsOf g.type)) ds ∧ D.sizes ds ≤ k := by
          intro i g k hi hk
          have hfm : g ∈ fs.toList := List.mem_of_getElem? hi
          rw [Array.getElem?_toList] at hi
          have h1 := hff i g hi
          have hil : i < xs.length := by rw [hxl]; exact (Array.getElem?_eq_some_iff.1 hi).1
          rw [List.getElem?_eq_getElem hil] at h1
          simp only [List.getElem?_map, List.getElem?_eq_getElem hil, Option.map_some, Option.some.injEq] at hk
          subst hk
          obtain ⟨ds, h2, h3, h4⟩ := trod_repB hf hT hZ n g.type _ _ (hcf g hfm) h1
          exact ⟨ds, h2.length hT (hcf g hfm), h2, h3, Nat.le_trans (sizes_elemOf h2) h4⟩
        obtain ⟨_, ds, h1, h2, h3, h4⟩ := fields_repB fs.toList ((xs.map (·.1)).map f) 0 _ hct (by omega) (by simpa using hxl) hall
        rw [Nat.sub_zero] at h1 h2
        rw [List.drop_zero, List.take_of_length_le (by omega)] at h2
        refine ⟨ds, ?_, h2, by simp only [elemOf, hu, D.size]; exact Nat.le_trans (Nat.add_le_add_right h4 1) (hf.agg _)⟩
        simp only [HasT, hu]
        refine ⟨h1, fun i g hi => ?_⟩
        have := (h3 g (by rw [Array.mem_toList_iff]; exact Array.mem_of_getElem? hi)).2
        rwa [Nat.sub_zero] at this
      | _ => simp only [hu] at hc; cases hc
end
end Go.Aug

/-
  The abstract layer: what a row's list of package variables (errors made by errors.New) gives the environment.
-/
namespace Go.Aug
open Go.ChangeShapes Go.RowKit

theorem laid_mem {P : Program} {W : World} : ∀ {L : List (String × DataW Unit)}, laidMet P L W → ∀ x ∈ L, laidMet P [x] W
  | [], _, x, h => by cases h
  | y :: L, h, x, hx => by
    rcases List.mem_cons.1 hx with rfl | hx
    · obtain ⟨ps, hv, hnd, hrows⟩ := h
      obtain ⟨n, d⟩ := x
      obtain ⟨g, t, cs, fuel, p, q, e1, e2, e3, e4, hq, rfl⟩ := hv
      exact ⟨_, ⟨g, t, cs, fuel, p, [], e1, e2, e3, e4, rfl, rfl⟩, List.Nodup.sublist (by simp) hnd, fun b off hm => hrows b off (List.mem_append_left _ (by simpa using hm))⟩
    · exact laid_mem h.tail x hx

/-- A listed table: the variable's block. -/
theorem laid_tab {P : Program} {W : World} {L : List (String × DataW Unit)} {name : String} {k : IntKind} {zs : List Int} {g : Nat} {t e : TypeId} {n : Nat}
    (h : laidMet P L W) (hm : (name, Lib.tabData k zs) ∈ L)
    (hg : P.globalNamed name = some g) (hty : (P.globals[g]?).map (·.type) = some t) (ht : P.underlying t = some (.array n e)) (he : P.underlying e = some (.int k)) (hce : P.cellsOf e = 1) (hct : P.cellsOf t = n) :
    ∃ T fr, W.heap[g]? = some (.cells (zs.map fun z => Value.int k z).toArray T fr) := by
  have := Lib.tabIs_of_head hg hty ht he hce hct (laid_mem h _ hm)
  unfold Lib.TabIs World.var? at this
  simp only [hg, Option.bind_some] at this
  split at this
  · rename_i cs T fr hh
    simp only [Option.some.injEq] at this
    exact ⟨T, fr, by rw [hh, this]⟩
  · cases this

/-- A listed error. -/
def SentRow (P : Program) (ti : TypeId) (g : Nat) (x : String × DataW Unit) : Prop :=
  P.globalNamed x.1 = some g ∧ (P.globals[g]?).map (·.type) = some ti ∧ ∃ s, x.2 = .iface "*errors.errorString" (.ptr (.agg [.lit (.string s)]))

theorem laid_sents {P : Program} {W : World} {ti tp te ts : TypeId} {ms : Array (String × TypeId)} {f : Field}
    (hi : P.underlying ti = some (.interface ms)) (hrow : ∀ u, P.typeName? 3 u = some "*errors.errorString" → u = tp)
    (hp : P.underlying tp = some (.pointer te)) (he : P.underlying te = some (.struct #[f])) (hft : f.type = ts) (hfo : f.offset = 0) (hs : P.underlying ts = some .string) (hc : P.cellsOf te = 1) (hcs : P.cellsOf ts = 1) :
    ∀ (L : List (String × DataW Unit)) (ps : List MemPlace), DataW.LaidVars P W L ps → ps.Nodup →
      (∀ b off, MemPlace.cell b off ∈ ps → (∃ c t, W.heap[b]? = some (.cells c t (0, 0))) ∧ ∀ u v, W.cell? ⟨b, off, none⟩ = some (.iface u v) → Value.okWide P W .any 0 u v) →
      ∃ eb : Nat → Addr, (∀ x ∈ L, ∀ g, SentRow P ti g x → W.cell? ⟨g, 0, none⟩ = some (.iface tp (.pointer (some (eb g)))) ∧ (∃ c t, W.heap[(eb g).block]? = some (.cells c t (0, 0))) ∧ .cell g 0 ∈ ps ∧ .cell (eb g).block (eb g).off ∈ ps) ∧
        (∀ x ∈ L, ∀ y ∈ L, ∀ g g', SentRow P ti g x → SentRow P ti g' y → eb g = eb g' → g = g')
  | [], ps, _, _, _ => ⟨fun _ => ⟨0, 0, none⟩, ⟨fun x hx => (List.not_mem_nil hx).elim, fun x hx => (List.not_mem_nil hx).elim⟩⟩
  | (n, d) :: L, ps, hv, hnd, hrows => by
    obtain ⟨g0, t0, cs0, f0, p0, q0, hg0, ht0, hv0, hd0, hq, rfl⟩ := hv
    have hnd' := hnd
    rw [List.nodup_append] at hnd
    obtain ⟨hnd1, hnd2, hdis⟩ := hnd
    obtain ⟨eb, h1, h2⟩ := laid_sents hi hrow hp he hft hfo hs hc hcs L q0 hq hnd2 (fun b off hm => hrows b off (List.mem_append_right _ hm))
    by_cases hS : ∃ g, SentRow P ti g (n, d)
    · obtain ⟨g, hg, ht, s, hd⟩ := hS
      obtain rfl := Option.some.inj (hg.symm.trans hg0)
      obtain rfl := Option.some.inj (ht.symm.trans ht0)
      simp only at hd
      subst hd
      obtain ⟨l0⟩ := cs0
      have ok0 : ∀ u v, l0 = [.iface u v] → Value.okWide P W .any 0 u v := fun u v e => by
        subst e
        exact (hrows g 0 (by simp [MemPlace.row])).2 u v (by simpa using World.var?_cell hg0 hv0 0)
      obtain ⟨a0, s0, rfl, hc0, hs0, hz0, rfl⟩ := errorString_of_trod hi hrow hp he hft hfo hs hc hcs hd0 ok0
      have m1 : MemPlace.cell g 0 ∈ MemPlace.row ⟨g, 0, none⟩ (Array.mk [Value.iface tp (.pointer (some a0))]).size ++ MemPlace.row a0 1 := by simp [MemPlace.row]
      have m2 : MemPlace.cell a0.block a0.off ∈ MemPlace.row ⟨g, 0, none⟩ (Array.mk [Value.iface tp (.pointer (some a0))]).size ++ MemPlace.row a0 1 := by simp [MemPlace.row]
      refine ⟨fun k => if k = g then a0 else eb k, ?_, ?_⟩
      · intro x hx k hk
        rcases List.mem_cons.1 hx with rfl | hx
        · obtain rfl := Option.some.inj (hk.1.symm.trans hg0)
          simp only [if_true]
          exact ⟨by simpa using World.var?_cell hg0 hv0 0, (hrows _ _ (List.mem_append_left _ m2)).1, List.mem_append_left _ m1, List.mem_append_left _ m2⟩
        · obtain ⟨q1, q2, q3, q4⟩ := h1 x hx k hk
          have hne : k ≠ g := fun e => by subst e; exact hdis _ m1 _ q3 rfl
          simp only [if_neg hne]
          exact ⟨q1, q2, List.mem_append_right _ q3, List.mem_append_right _ q4⟩
      · intro x hx y hy k k' hk hk' e
        simp only at e
        rcases List.mem_cons.1 hx with rfl | hx <;> rcases List.mem_cons.1 hy with rfl | hy
        · exact Option.some.inj (hk.1.symm.trans hk'.1)
        · obtain rfl := Option.some.inj (hk.1.symm.trans hg0)
          obtain ⟨q1, q2, q3, q4⟩ := h1 y hy k' hk'
          by_cases hne : k' = k
          · exact hne.symm
          · rw [if_pos rfl, if_neg hne] at e
            rw [← e] at q4
            exact absurd rfl (hdis _ m2 _ q4)
        · obtain rfl := Option.some.inj (hk'.1.symm.trans hg0)
          obtain ⟨q1, q2, q3, q4⟩ := h1 x hx k hk
          by_cases hne : k = k'
          · exact hne
          · rw [if_pos rfl, if_neg hne] at e
            rw [e] at q4
            exact absurd rfl (hdis _ m2 _ q4)
        · have n1 : k ≠ g := fun e => by subst e; exact hdis _ m1 _ (h1 x hx _ hk).2.2.1 rfl
          have n2 : k' ≠ g := fun e => by subst e; exact hdis _ m1 _ (h1 y hy _ hk').2.2.1 rfl
          rw [if_neg n1, if_neg n2] at e
          exact h2 x hx y hy k k' hk hk' e
    · refine ⟨eb, ?_, ?_⟩
      · intro x hx k hk
        rcases List.mem_cons.1 hx with rfl | hx
        · exact absurd ⟨k, hk⟩ hS
        · obtain ⟨q1, q2, q3, q4⟩ := h1 x hx k hk
          exact ⟨q1, q2, List.mem_append_right _ q3, List.mem_append_right _ q4⟩
      · intro x hx y hy k k' hk hk' e
        rcases List.mem_cons.1 hx with rfl | hx
        · exact absurd ⟨k, hk⟩ hS
        · rcases List.mem_cons.1 hy with rfl | hy
          · exact absurd ⟨k', hk'⟩ hS
          · exact h2 x hx y hy k k' hk hk' e

/-- The environment that a row's list gives: its errors, and the blocks of its tables as they are. -/
theorem laid_env {P : Program} {W : World} {ti tp te ts TE : TypeId} {ms : Array (String × TypeId)} {f : Field}
    (hi : P.underlying ti = some (.interface ms)) (hrow : ∀ u, P.typeName? 3 u = some "*errors.errorString" → u = tp)
    (hp : P.underlying tp = some (.pointer te)) (he : P.underlying te = some (.struct #[f])) (hft : f.type = ts) (hfo : f.offset = 0) (hs : P.underlying ts = some .string) (hc : P.cellsOf te = 1) (hcs : P.cellsOf ts = 1)
    {L : List (String × DataW Unit)} (h : laidMet P L W) (G : Nat → Option D)
    (hG : ∀ g x, G g = some x → x = .sent g ∧ ∃ y ∈ L, SentRow P ti g y) :
    ∃ eb : Nat → Addr, ∀ B : Nat → Bool, EnvOK ⟨tp, TE, eb, G, fun b => if B b then W.heap[b]? else none⟩ W (fun _ => False) := by
  obtain ⟨ps, hv, hnd, hrows⟩ := h
  obtain ⟨eb, h1, h2⟩ := laid_sents hi hrow hp he hft hfo hs hc hcs L ps hv hnd hrows
  refine ⟨eb, fun B => ⟨?_, ?_, ?_, ?_⟩⟩
  · intro g x hg
    obtain ⟨rfl, y, hy, hs⟩ := hG g x hg
    obtain ⟨q1, _, _, _⟩ := h1 y hy g hs
    exact ⟨id, World.block_lt_of_cell? W _ q1, _, q1, rfl, .sent (V := ⟨tp, TE, eb, G, fun b => if B b then W.heap[b]? else none⟩) g⟩
  · intro g hg
    obtain ⟨_, y, hy, hs⟩ := hG g _ hg
    obtain ⟨_, ⟨c, t, hb⟩, _, _⟩ := h1 y hy g hs
    exact ⟨id, (Array.getElem?_eq_some_iff.1 hb).1, c, t, hb⟩
  · intro g g' hg hg' e
    obtain ⟨_, y, hy, hs⟩ := hG g _ hg
    obtain ⟨_, y', hy', hs'⟩ := hG g' _ hg'
    exact h2 y hy y' hy' g g' hs hs' e
  · intro b o hb
    simp only at hb
    split at hb
    · exact ⟨id, (Array.getElem?_eq_some_iff.1 hb).1, hb⟩
    · cases hb
end Go.Aug

/-
  The abstract layer: the bridge from a row's condition to a contract, for every program.
-/
namespace Go.Aug
open Go.ChangeShapes Go.WideShapes Go.RowKit

section
variable {P : Program} {n : Nat} {t e : TypeId} {ds : List D}
theorem hasT_bool (hu : P.underlying t = some .bool) (h : HasT P n t ds) : ∃ b, ds = [.bool b] := by
  cases n with
  | zero => exact h.elim
  | succ n => simp only [HasT, hu] at h; exact h
theorem hasT_int {k : IntKind} (hu : P.underlying t = some (.int k)) (h : HasT P n t ds) : ∃ m, ds = [.int k m] := by
  cases n with
  | zero => exact h.elim
  | succ n => simp only [HasT, hu] at h; obtain ⟨m, e, _⟩ := h; exact ⟨m, e⟩
theorem hasT_str (hu : P.underlying t = some .string) (h : HasT P n t ds) : ∃ s, ds = [.str s] := by
  cases n with
  | zero => exact h.elim
  | succ n => simp only [HasT, hu] at h; obtain ⟨m, e, _⟩ := h; exact ⟨m, e⟩
theorem hasT_slice (hu : P.underlying t = some (.slice e)) (h : HasT P n t ds) : ∃ (m : Nat) (ess : List (List D)), n = m + 1 ∧ ds = [.slice (ess.map (elemOf P e))] ∧ ∀ cs ∈ ess, HasT P m e cs := by
  cases n with
  | zero => exact h.elim
  | succ n => simp only [HasT, hu] at h; obtain ⟨ess, e, _, h⟩ := h; exact ⟨n, ess, rfl, e, h⟩
theorem hasT_struct {fs : Array Field} (hu : P.underlying t = some (.struct fs)) (h : HasT P n t ds) : ∃ m, n = m + 1 ∧ ds.length = P.cellsOf t ∧ ∀ (i : Nat) (f : Field), fs[i]? = some f → HasT P m f.type ((ds.drop f.offset).take (P.cellsOf f.type)) := by
  cases n with
  | zero => exact h.elim
  | succ n => simp only [HasT, hu] at h; exact ⟨n, rfl, h⟩
theorem map_of {α β γ : Type} {f : α → γ} {g : β → γ} : ∀ {l : List α}, (∀ x ∈ l, ∃ y, f x = g y) → ∃ m : List β, l.map f = m.map g
  | [], _ => ⟨[], rfl⟩
  | x :: l, h => by
    obtain ⟨y, hy⟩ := h x (by simp)
    obtain ⟨m, hm⟩ := map_of (l := l) (fun z hz => h z (by simp [hz]))
    exact ⟨y :: m, by simp [hy, hm]⟩
end

theorem len4 {α : Type} {l : List α} (h : l.length = 4) : ∃ a b c d, l = [a, b, c, d] := by
  match l, h with
  | [a, b, c, d], _ => exact ⟨a, b, c, d, rfl⟩
theorem len6 {α : Type} {l : List α} (h : l.length = 6) : ∃ a b c d e f, l = [a, b, c, d, e, f] := by
  match l, h with
  | [a, b, c, d, e, f], _ => exact ⟨a, b, c, d, e, f, rfl⟩
theorem len9 {α : Type} {l : List α} (h : l.length = 9) : ∃ a b c d e f g i j, l = [a, b, c, d, e, f, g, i, j] := by
  match l, h with
  | [a, b, c, d, e, f, g, i, j], _ => exact ⟨a, b, c, d, e, f, g, i, j, rfl⟩

theorem below_of {Z' : Nat → Prop} {H' : Heap} {W W' : World} (x : Ext (fun _ => False) (fun _ => none) W Z' H' W') : Below W.heap.size W W' :=
  ⟨x.os, x.tape, x.output, x.size, fun k hk => x.block k hk (fun ⟨_, h, _⟩ => by cases h)⟩

/-- The argument, as a deep value no larger than its reading. -/
theorem arg_repB {H : Type} {enc : TypeId × Value → H} {f : DataW H → Nat} (hf : Meas f) {P : Program} {W : World} {base : Nat} {t : TypeId} {fs : Array Field} {v0 : Value} {d0 : DataW H} {ps : List MemPlace} {T : List TypeId} {V : Env} (hT : closedT P T = true) (ht : t ∈ T) (hu : P.underlying t = some (.struct fs))
    (hok : Value.okWide P W .any base t v0) (h0 : DataW.Trod enc P W 0 (fun _ => true) true t v0 d0 ps) : ∃ n ds, HasT P n t ds ∧ RepA V W (fun _ => False) v0 (.d (.agg ds)) ∧ D.sizes ds + 1 ≤ f d0 := by
  unfold Value.okWide at hok
  simp only [hu] at hok
  obtain ⟨cs, rfl, hsz, _⟩ := hok
  obtain ⟨fuel, h0⟩ := h0
  obtain ⟨ds, h1, h2, h3⟩ := trod_repB (V := V) (Z := fun _ => False) hf hT (fun _ h => h) fuel t _ _ ht h0
  refine ⟨fuel, ds, h1, .d _ _ ?_, ?_⟩
  · have e : Value.agg cs = .agg cs.toList.toArray := by simp
    rw [e]
    have h2' : RepL V W (fun _ => False) cs.toList ds := h2
    exact .agg cs.toList ds h2'.1 (fun v hv => by
      obtain ⟨j, hj⟩ := List.getElem?_of_mem hv
      have hjl := (List.getElem?_eq_some_iff.1 hj).1
      exact (h2'.2 j v (ds[j]'(by rw [← h2'.1]; exact hjl)) hj (List.getElem?_eq_getElem _)).2) (fun j hj hj' => (h2'.2 j _ _ (List.getElem?_eq_getElem hj) (List.getElem?_eq_getElem hj')).1)
  · simpa [elemOf, hu, D.size] using h3

theorem law_calls {P : Program} {f : FuncId} {x : D} {V : Env} {W : World} {v0 : Value} (ok : ACall P V f [.d x] (fun _ => none) (fun r _ => r = .d (.bool true))) (hr : RepA V W (fun _ => False) v0 (.d x)) (he : EnvOK V W (fun _ => False)) :
    Calls P f #[v0] W fun e W' => e = .returned (.bool true) ∧ Below W.heap.size W W' := by
  have := ok (fun _ => False) W [v0] rfl (fun j h h' => by
    have : j = 0 := by simp at h; omega
    subst this; exact hr) ⟨(fun b o h => by cases h), (fun b h => h.elim), he, (fun b o h => by cases h)⟩
  refine this.mono ?_
  rintro e W' ⟨v, r, Z', H', rfl, hv, _, hx, rfl⟩
  refine ⟨?_, below_of hx⟩
  cases hv with
  | d _ _ h => cases h; rfl
end Go.Aug
