/- The abstract layer, seventh part: what is read as data is a deep value, and the errors of a row's list; no conditions. -/
import Derived.Test.YtejfagblpbmokaaDoorRunTwo
import Derived.ChangeArms
import Derived.DataReads
import GoSem.ClaimChange
import Derived.Lib.LaidTab
import Derived.Stop.LaidErr
import Derived.ChangeSame
import Derived.ChangeVars
import Derived.JoinedOf
import Derived.RowKit
import Derived.Carry
import Derived.OpenShut
set_option linter.all false
set_option linter.unusedVariables false
set_option linter.unusedSimpArgs false
set_option linter.unusedSectionVars false

/-
  The abstract layer, part W: what is read as data is a deep value of its type's shape.
-/
namespace Go.Aug
/-- A reading's element as one deep value. -/
def elemOf (P : Program) (e : TypeId) (cs : List D) : D := match P.underlying e with
  | some (.struct _) => .agg cs
  | _ => cs.headD (.slice [])
/-- The cells of a value of a type: no pointers, maps, interfaces, functions. -/
def HasT (P : Program) : Nat → TypeId → List D → Prop
  | 0, _, _ => False
  | n + 1, t, ds => match P.underlying t with
    | some .bool => ∃ b, ds = [.bool b]
    | some (.int k) => ∃ m, ds = [.int k m] ∧ (Lit.int k m).wf = true
    | some .string => ∃ s : ByteArray, ds = [.str s] ∧ s.size ≤ maxLen
    | some (.slice e) => ∃ ess : List (List D), ds = [.slice (ess.map (elemOf P e))] ∧ ess.length ≤ maxLen ∧ ∀ cs ∈ ess, HasT P n e cs
    | some (.struct fs) => ds.length = P.cellsOf t ∧ ∀ (i : Nat) (f : Field), fs[i]? = some f → HasT P n f.type ((ds.drop f.offset).take (P.cellsOf f.type))
    | _ => False
def contig (P : Program) : Nat → List Field → Option Nat
  | off, [] => some off
  | off, f :: fs => if f.offset = off then contig P (off + P.cellsOf f.type) fs else none
/-- Types that hold such types alone. -/
def closedT (P : Program) (T : List TypeId) : Bool := T.all fun t => match P.underlying t with
  | some .bool | some (.int _) | some .string => P.cellsOf t == 1
  | some (.slice e) => P.cellsOf t == 1 && T.contains e && decide (0 < P.cellsOf e)
  | some (.struct fs) => fs.toList.all (fun f => T.contains f.type) && (contig P 0 fs.toList == some (P.cellsOf t))
  | _ => false
def RepL (V : Env) (w : World) (Z : Nat → Prop) (vs : List Value) (ds : List D) : Prop :=
  vs.length = ds.length ∧ ∀ (j : Nat) (v : Value) (d : D), vs[j]? = some v → ds[j]? = some d → RepD V w Z v d ∧ v.oneCell' = true
section
variable {V : Env} {w : World} {Z : Nat → Prop} {P : Program}
theorem RepL.nil : RepL V w Z [] [] := ⟨rfl, fun j v d h => by simp at h⟩
theorem RepL.one {v : Value} {d : D} (h : RepD V w Z v d) (h1 : v.oneCell' = true) : RepL V w Z [v] [d] := ⟨rfl, fun j v' d' hv hd => by
  cases j with
  | zero => simp at hv hd; subst hv hd; exact ⟨h, h1⟩
  | succ j => simp at hv⟩
theorem RepL.append {a b : List Value} {x y : List D} (h : RepL V w Z a x) (k : RepL V w Z b y) : RepL V w Z (a ++ b) (x ++ y) := by
  refine ⟨by simp [h.1, k.1], fun j v d hv hd => ?_⟩
  by_cases e : j < a.length
  · rw [List.getElem?_append_left e] at hv
    rw [List.getElem?_append_left (by rw [← h.1]; exact e)] at hd
    exact h.2 j v d hv hd
  · rw [List.getElem?_append_right (by omega)] at hv
    rw [List.getElem?_append_right (by rw [← h.1]; omega), ← h.1] at hd
    exact k.2 _ v d hv hd
theorem elemOf_cells {n : Nat} {e : TypeId} {cs : List D} (h : HasT P n e cs) : (elemOf P e cs).cells = cs := by
  cases n with
  | zero => exact h.elim
  | succ n =>
    simp only [HasT] at h
    unfold elemOf
    split at h
    · rename_i hu; obtain ⟨b, rfl⟩ := h; simp only [hu]; rfl
    · rename_i hu; obtain ⟨b, rfl, _⟩ := h; simp only [hu]; rfl
    · rename_i hu; obtain ⟨b, rfl, _⟩ := h; simp only [hu]; rfl
    · rename_i hu; obtain ⟨b, rfl, _⟩ := h; simp only [hu]; rfl
    · rename_i hu; simp only [hu]; rfl
    · exact h.elim
theorem closedT_at {T : List TypeId} (h : closedT P T = true) {t : TypeId} (ht : t ∈ T) : (match P.underlying t with
  | some .bool | some (.int _) | some .string => P.cellsOf t == 1
  | some (.slice e) => P.cellsOf t == 1 && T.contains e && decide (0 < P.cellsOf e)
  | some (.struct fs) => fs.toList.all (fun f => T.contains f.type) && (contig P 0 fs.toList == some (P.cellsOf t))
  | _ => false) = true := List.all_eq_true.1 h t ht
theorem HasT.length {T : List TypeId} (hT : closedT P T = true) {n : Nat} {t : TypeId} (ht : t ∈ T) {ds : List D} (h : HasT P n t ds) : ds.length = P.cellsOf t := by
  have hc := closedT_at hT ht
  cases n with
  | zero => exact h.elim
  | succ n =>
    simp only [HasT] at h
    split at h
    · rename_i hu; obtain ⟨b, rfl⟩ := h; simp only [hu, beq_iff_eq] at hc; simp [hc]
    · rename_i hu; obtain ⟨b, rfl, _⟩ := h; simp only [hu, beq_iff_eq] at hc; simp [hc]
    · rename_i hu; obtain ⟨b, rfl, _⟩ := h; simp only [hu, beq_iff_eq] at hc; simp [hc]
    · rename_i hu; obtain ⟨b, rfl, _⟩ := h; simp only [hu, Bool.and_eq_true, beq_iff_eq] at hc; simp [hc.1.1]
    · exact h.1
    · exact h.elim
/-- A struct's fields, one behind the other. -/
theorem fields_rep {n : Nat} {cs : List Value} : ∀ (fs : List Field) (off fin : Nat), contig P off fs = some fin → fin ≤ cs.length →
    (∀ f ∈ fs, ∃ ds : List D, ds.length = P.cellsOf f.type ∧ HasT P n f.type ds ∧ RepL V w Z ((cs.drop f.offset).take (P.cellsOf f.type)) ds) →
    off ≤ fin ∧ ∃ ds : List D, ds.length = fin - off ∧ RepL V w Z ((cs.drop off).take (fin - off)) ds ∧ ∀ f ∈ fs, off ≤ f.offset ∧ HasT P n f.type ((ds.drop (f.offset - off)).take (P.cellsOf f.type))
  | [], off, fin, h, hl, _ => by
    simp only [contig, Option.some.injEq] at h
    subst h
    exact ⟨Nat.le_refl _, [], by simp, by rw [Nat.sub_self, List.take_zero]; exact RepL.nil, fun f hf => by simp at hf⟩
  | f :: fs, off, fin, h, hl, hx => by
    simp only [contig] at h
    split at h
    · rename_i ho
      obtain ⟨x, hxl, hxt, hxr⟩ := hx f (by simp)
      obtain ⟨h1, ds, h2, h3, h4⟩ := fields_rep fs _ fin h hl (fun g hg => hx g (by simp [hg]))
      rw [ho] at hxr
      have e : (cs.drop off).take (fin - off) = (cs.drop off).take (P.cellsOf f.type) ++ (cs.drop (off + P.cellsOf f.type)).take (fin - (off + P.cellsOf f.type)) := by
        have : fin - off = P.cellsOf f.type + (fin - (off + P.cellsOf f.type)) := by omega
        rw [this, List.take_add, List.drop_drop]
      refine ⟨by omega, x ++ ds, by simp [hxl, h2]; omega, by rw [e]; exact hxr.append h3, ?_⟩
      intro g hg
      rcases List.mem_cons.1 hg with rfl | hg
      · rw [ho, Nat.sub_self, List.drop_zero, List.take_append_of_le_length (by omega), List.take_of_length_le (by omega)]
        exact ⟨Nat.le_refl _, hxt⟩
      · obtain ⟨q1, q2⟩ := h4 g hg
        refine ⟨by omega, ?_⟩
        have : g.offset - off = x.length + (g.offset - (off + P.cellsOf f.type)) := by omega
        rw [this, List.drop_append]
        rw [List.drop_of_length_le (by omega), List.nil_append]
        have : x.length + (g.offset - (off + P.cellsOf f.type)) - x.length = g.offset - (off + P.cellsOf f.type) := by omega
        rw [this]; exact q2
    · cases h
theorem cells?_some {base : Nat} {a : Addr} {n : Nat} {cs : List Value} (h : w.cells? base a n = some cs) : cs.length = n ∧ ∀ i, i < n → w.cell? (a.add i) = cs[i]? := by
  unfold World.cells? at h
  split at h
  · refine ⟨by simpa using mapM_some_length h, fun i hi => ?_⟩
    exact mapM_some_get h i i (by simp [hi])
  · cases h
theorem cell_addr {a : Addr} {v : Value} (h : w.cell? a = some v) : a = ⟨a.block, a.off, none⟩ ∧ a.block < w.heap.size := by
  obtain ⟨b, o, s⟩ := a
  unfold World.cell? at h
  simp only at h
  split at h
  · rename_i hh
    split at h
    · cases h
    · rename_i hs
      have : s = none := by cases s with
        | none => rfl
        | some x => simp at hs
      subst this
      exact ⟨rfl, (Array.getElem?_eq_some_iff.1 hh).1⟩
  · cases h
variable {H : Type} {enc : TypeId × Value → H}
theorem trod_rep {T : List TypeId} (hT : closedT P T = true) (hZ : ∀ b, ¬ Z b) {base : Nat} {sp : Nat → Bool} {held : Bool} : ∀ (fuel : Nat) (t : TypeId) (cs : List Value) (x : DataW H × List MemPlace), t ∈ T →
    DataW.trod enc P w base sp held fuel t cs = some x → ∃ ds : List D, HasT P fuel t ds ∧ RepL V w Z cs ds
  | 0, _, _, _, _, h => by simp [DataW.trod] at h
  | fuel + 1, t, cs, x, ht, h => by
    have hc := closedT_at hT ht
    cases hu : P.underlying t with
    | none => simp only [hu] at hc; cases hc
    | some u =>
      cases u with
      | bool =>
        obtain ⟨b, rfl, _⟩ := DataW.trod_bool hu h
        exact ⟨[.bool b], by simp only [HasT, hu]; exact ⟨b, rfl⟩, .one (.bool b) rfl⟩
      | int k =>
        obtain ⟨n, rfl, _, hw⟩ := DataW.trod_int hu h
        exact ⟨[.int k n], by simp only [HasT, hu]; exact ⟨n, rfl, hw⟩, .one (.int k n) rfl⟩
      | string =>
        obtain ⟨s, rfl, _, hw⟩ := DataW.trod_string hu h
        exact ⟨[.str s], by simp only [HasT, hu]; exact ⟨s, rfl, hw⟩, .one (.str s) rfl⟩
      | slice e =>
        simp only [hu, Bool.and_eq_true, beq_iff_eq, decide_eq_true_eq, List.contains_iff_mem] at hc
        obtain ⟨⟨hc1, he⟩, hpos⟩ := hc
        rcases DataW.trod_slice hu h with ⟨rfl, _⟩ | ⟨a, len, cap, elems, rest, n, hn, rfl, _, hb, hlc, hcm, hel, hget, _⟩
        · exact ⟨[.slice []], by simp only [HasT, hu]; exact ⟨[], rfl, Nat.zero_le _, fun cs h => by simp at h⟩, .one (.empty none 0) rfl⟩
        · obtain rfl : n = fuel := by omega
          have hex : ∀ i, ∃ ds : List D, i < len → HasT P n e ds ∧ ∃ cs', w.cells? base (a.add (i * P.cellsOf e)) (P.cellsOf e) = some cs' ∧ RepL V w Z cs' ds := by
            intro i
            by_cases hi : i < len
            · have := hget i hi
              have hil : elems[i]? = some (elems[i]'(by omega)) := List.getElem?_eq_getElem (by omega)
              rw [hil, Option.bind_eq_some_iff] at this
              obtain ⟨cs', h1, h2⟩ := this
              obtain ⟨ds, h3, h4⟩ := trod_rep hT hZ n e cs' _ he h2
              exact ⟨ds, fun _ => ⟨h3, cs', h1, h4⟩⟩
            · exact ⟨[], fun h => absurd h hi⟩
          obtain ⟨f, hf⟩ := Classical.skolem.1 hex
          let ess : List (List D) := (List.range len).map f
          have hess : ∀ cs ∈ ess, HasT P n e cs := by
            intro cs hcs
            obtain ⟨i, hi, rfl⟩ := List.mem_map.1 hcs
            exact (hf i (List.mem_range.1 hi)).1
          have hesl : ess.length = len := by simp [ess]
          refine ⟨[.slice (ess.map (elemOf P e))], by simp only [HasT, hu]; exact ⟨ess, rfl, by omega, hess⟩, .one ?_ rfl⟩
          by_cases h0 : len = 0
          · have : ess = [] := List.length_eq_zero_iff.1 (by omega)
            rw [this, h0]; exact .empty _ _
          · have hlen : (ess.map (elemOf P e)).length = len := by simp [hesl]
            have hsz : ∀ x ∈ ess.map (elemOf P e), (D.cells x).length = P.cellsOf e := by
              intro x hx
              obtain ⟨cs, hcs, rfl⟩ := List.mem_map.1 hx
              rw [elemOf_cells (hess cs hcs)]
              exact (hess cs hcs).length hT he
            have hfl := flat_length hsz
            have hcell : ∀ i r, i < len → r < P.cellsOf e → ∃ v d, w.cell? ⟨a.block, a.off + (i * P.cellsOf e + r), none⟩ = some v ∧ (flat (ess.map (elemOf P e)))[i * P.cellsOf e + r]? = some d ∧ RepD V w Z v d ∧ v.oneCell' = true := by
              intro i r hi hr
              obtain ⟨h1, cs', h2, h3⟩ := hf i hi
              obtain ⟨h4, h5⟩ := cells?_some h2
              have h6 := h5 r hr
              rw [List.getElem?_eq_getElem (by omega)] at h6
              have hd : (f i)[r]? = some ((f i)[r]'(by rw [← h3.1]; omega)) := List.getElem?_eq_getElem _
              obtain ⟨h7, h8⟩ := h3.2 r _ _ (List.getElem?_eq_getElem (by omega)) hd
              refine ⟨_, _, ?_, ?_, h7, h8⟩
              · rw [← h6]
                have hh := (cell_addr h6).1
                congr 1
                rw [hh]
                have e1 : ((a.add (i * P.cellsOf e)).add r).block = a.block := by unfold Addr.add; split <;> split <;> rfl
                have e2 : ((a.add (i * P.cellsOf e)).add r).off = a.off + (i * P.cellsOf e + r) := by
                  have q : ∀ (b : Addr) (n : Nat), (b.add n).off = b.off + n := by
                    intro b n; unfold Addr.add; split
                    · rename_i h; subst h; rfl
                    · rfl
                  rw [q, q, Nat.add_assoc]
                rw [e1, e2]
              · rw [flat_get hsz i r (by omega) hr]
                have e3 : (ess.map (elemOf P e))[i]'(by omega) = elemOf P e (f i) := by simp [ess]
                rw [e3, elemOf_cells h1, hd]
            have hdiv : ∀ j, j < (flat (ess.map (elemOf P e))).length → j / P.cellsOf e < len ∧ j % P.cellsOf e < P.cellsOf e ∧ j / P.cellsOf e * P.cellsOf e + j % P.cellsOf e = j := by
              intro j hj
              rw [hfl, hlen] at hj
              exact ⟨(Nat.div_lt_iff_lt_mul hpos).2 hj, Nat.mod_lt _ hpos, by rw [Nat.mul_comm]; exact Nat.div_add_mod _ _⟩
            have hcell' : ∀ j (hj : j < (flat (ess.map (elemOf P e))).length), ∃ v, w.cell? ⟨a.block, a.off + j, none⟩ = some v ∧ RepD V w Z v (flat (ess.map (elemOf P e)))[j] ∧ v.oneCell' = true := by
              intro j hj
              obtain ⟨q1, q2, q3⟩ := hdiv j hj
              obtain ⟨v, d, r1, r2, r3, r4⟩ := hcell _ _ q1 q2
              rw [q3] at r1 r2
              rw [List.getElem?_eq_getElem hj, Option.some.injEq] at r2
              exact ⟨v, r1, by rw [r2]; exact r3, r4⟩
            have ha : a = ⟨a.block, a.off, none⟩ ∧ a.block < w.heap.size := by
              obtain ⟨_, cs', h2, h3⟩ := hf 0 (by omega)
              obtain ⟨h4, h5⟩ := cells?_some h2
              have h6 := h5 0 hpos
              rw [List.getElem?_eq_getElem (by omega)] at h6
              have e0 : (a.add (0 * P.cellsOf e)).add 0 = a := by rw [Nat.zero_mul]; rfl
              rw [e0] at h6
              exact cell_addr h6
            rw [ha.1]
            have := RepD.slice (V := V) (w := w) (Z := Z) a.block a.off cap (ess.map (elemOf P e)) (P.cellsOf e) (fun j => (w.cell? ⟨a.block, a.off + j, none⟩).getD undef) (by omega) (hZ _) ha.2 hsz
              (fun j hj => by obtain ⟨v, q, _⟩ := hcell' j hj; simp only [q, Option.getD_some])
              (fun j hj => by obtain ⟨v, q, _, q2⟩ := hcell' j hj; simp only [q, Option.getD_some]; exact q2)
              (fun j hj => by obtain ⟨v, q, q1, _⟩ := hcell' j hj; simp only [q, Option.getD_some]; exact q1)
            rw [hlen] at this
            exact this
      | struct fs =>
        simp only [hu, Bool.and_eq_true, beq_iff_eq, List.all_eq_true, List.contains_iff_mem] at hc
        obtain ⟨hcf, hct⟩ := hc
        obtain ⟨xs, n, hn, _, hcl, hxl, hf⟩ := DataW.trod_struct hu h
        obtain rfl : n = fuel := by omega
        have hall : ∀ f ∈ fs.toList, ∃ ds : List D, ds.length = P.cellsOf f.type ∧ HasT P n f.type ds ∧ RepL V w Z ((cs.drop f.offset).take (P.cellsOf f.type)) ds := by
          intro f hfm
          obtain ⟨i, hi⟩ := List.getElem?_of_mem hfm
          rw [Array.getElem?_toList] at hi
          have h1 := hf i f hi
          have hil : i < xs.length := by rw [hxl]; exact (Array.getElem?_eq_some_iff.1 hi).1
          rw [List.getElem?_eq_getElem hil] at h1
          obtain ⟨ds, h2, h3⟩ := trod_rep hT hZ n f.type _ _ (hcf f hfm) h1
          exact ⟨ds, h2.length hT (hcf f hfm), h2, h3⟩
        obtain ⟨_, ds, h1, h2, h3⟩ := fields_rep fs.toList 0 _ hct (by omega) hall
        rw [Nat.sub_zero] at h1 h2
        rw [List.drop_zero, List.take_of_length_le (by omega)] at h2
        refine ⟨ds, ?_, h2⟩
        simp only [HasT, hu]
        refine ⟨h1, fun i f hi => ?_⟩
        have := (h3 f (by rw [Array.mem_toList_iff]; exact Array.mem_of_getElem? hi)).2
        rwa [Nat.sub_zero] at this
      | _ => simp only [hu] at hc; cases hc
end
end Go.Aug

/-
  The abstract layer: what is read as data is a deep value of its type's shape, and no larger than the reading (a measure of the reading that counts each value and each letter).
-/
namespace Go.Aug
section
variable {V : Env} {w : World} {Z : Nat → Prop} {P : Program}
variable {H : Type} {enc : TypeId × Value → H} {f : DataW H → Nat}
end
end Go.Aug

/-
  The abstract layer: what a row's list of package variables (errors made by errors.New) gives the environment.
-/
namespace Go.Aug
open Go.ChangeShapes Go.RowKit
/-- A listed error. -/
def SentRow (P : Program) (ti : TypeId) (g : Nat) (x : String × DataW Unit) : Prop :=
  P.globalNamed x.1 = some g ∧ (P.globals[g]?).map (·.type) = some ti ∧ ∃ s, x.2 = .iface "*errors.errorString" (.ptr (.agg [.lit (.string s)]))
theorem laid_sents {P : Program} {W : World} {ti tp te ts : TypeId} {ms : Array (String × TypeId)} {f : Field}
    (hi : P.underlying ti = some (.interface ms)) (hrow : ∀ u, P.typeName? 3 u = some "*errors.errorString" → u = tp)
    (hp : P.underlying tp = some (.pointer te)) (he : P.underlying te = some (.struct #[f])) (hft : f.type = ts) (hfo : f.offset = 0) (hs : P.underlying ts = some .string) (hc : P.cellsOf te = 1) (hcs : P.cellsOf ts = 1) :
    ∀ (L : List (String × DataW Unit)) (ps : List MemPlace), DataW.LaidVars P W L ps → ps.Nodup →
      (∀ b off, MemPlace.cell b off ∈ ps → (∃ c t, W.heap[b]? = some (.cells c t (0, 0))) ∧ ∀ u v, W.cell? ⟨b, off, none⟩ = some (.iface u v) → Value.okWide P W .any 0 u v) →
      ∃ eb : Nat → Addr, (∀ x ∈ L, ∀ g, SentRow P ti g x → W.cell? ⟨g, 0, none⟩ = some (.iface tp (.pointer (some (eb g)))) ∧ (∃ c t, W.heap[(eb g).block]? = some (.cells c t (0, 0))) ∧ .cell g 0 ∈ ps ∧ .cell (eb g).block (eb g).off ∈ ps) ∧
        (∀ x ∈ L, ∀ y ∈ L, ∀ g g', SentRow P ti g x → SentRow P ti g' y → eb g = eb g' → g = g')
  | [], ps, _, _, _ => ⟨fun _ => ⟨0, 0, none⟩, ⟨fun x hx => (List.not_mem_nil hx).elim, fun x hx => (List.not_mem_nil hx).elim⟩⟩
  | (n, d) :: L, ps, hv, hnd, hrows => by
    obtain ⟨g0, t0, cs0, f0, p0, q0, hg0, ht0, hv0, hd0, hq, rfl⟩ := hv
    have hnd' := hnd
    rw [List.nodup_append] at hnd
    obtain ⟨hnd1, hnd2, hdis⟩ := hnd
    obtain ⟨eb, h1, h2⟩ := laid_sents hi hrow hp he hft hfo hs hc hcs L q0 hq hnd2 (fun b off hm => hrows b off (List.mem_append_right _ hm))
    by_cases hS : ∃ g, SentRow P ti g (n, d)
    · obtain ⟨g, hg, ht, s, hd⟩ := hS
      obtain rfl := Option.some.inj (hg.symm.trans hg0)
      obtain rfl := Option.some.inj (ht.symm.trans ht0)
      simp only at hd
      subst hd
      obtain ⟨l0⟩ := cs0
      have ok0 : ∀ u v, l0 = [.iface u v] → Value.okWide P W .any 0 u v := fun u v e => by
        subst e
        exact (hrows g 0 (by simp [MemPlace.row])).2 u v (by simpa using World.var?_cell hg0 hv0 0)
      obtain ⟨a0, s0, rfl, hc0, hs0, hz0, rfl⟩ := errorString_of_trod hi hrow hp he hft hfo hs hc hcs hd0 ok0
      have m1 : MemPlace.cell g 0 ∈ MemPlace.row ⟨g, 0, none⟩ (Array.mk [Value.iface tp (.pointer (some a0))]).size ++ MemPlace.row a0 1 := by simp [MemPlace.row]
      have m2 : MemPlace.cell a0.block a0.off ∈ MemPlace.row ⟨g, 0, none⟩ (Array.mk [Value.iface tp (.pointer (some a0))]).size ++ MemPlace.row a0 1 := by simp [MemPlace.row]
      refine ⟨fun k => if k = g then a0 else eb k, ?_, ?_⟩
      · intro x hx k hk
        rcases List.mem_cons.1 hx with rfl | hx
        · obtain rfl := Option.some.inj (hk.1.symm.trans hg0)
          simp only [if_true]
          exact ⟨by simpa using World.var?_cell hg0 hv0 0, (hrows _ _ (List.mem_append_left _ m2)).1, List.mem_append_left _ m1, List.mem_append_left _ m2⟩
        · obtain ⟨q1, q2, q3, q4⟩ := h1 x hx k hk
          have hne : k ≠ g := fun e => by subst e; exact hdis _ m1 _ q3 rfl
          simp only [if_neg hne]
          exact ⟨q1, q2, List.mem_append_right _ q3, List.mem_append_right _ q4⟩
      · intro x hx y hy k k' hk hk' e
        simp only at e
        rcases List.mem_cons.1 hx with rfl | hx <;> rcases List.mem_cons.1 hy with rfl | hy
        · exact Option.some.inj (hk.1.symm.trans hk'.1)
        · obtain rfl := Option.some.inj (hk.1.symm.trans hg0)
          obtain ⟨q1, q2, q3, q4⟩ := h1 y hy k' hk'
          by_cases hne : k' = k
          · exact hne.symm
          · rw [if_pos rfl, if_neg hne] at e
            rw [← e] at q4
            exact absurd rfl (hdis _ m2 _ q4)
        · obtain rfl := Option.some.inj (hk'.1.symm.trans hg0)
          obtain ⟨q1, q2, q3, q4⟩ := h1 x hx k hk
          by_cases hne : k = k'
          · exact hne
          · rw [if_pos rfl, if_neg hne] at e
            rw [e] at q4
            exact absurd rfl (hdis _ m2 _ q4)
        · have n1 : k ≠ g := fun e => by subst e; exact hdis _ m1 _ (h1 x hx _ hk).2.2.1 rfl
          have n2 : k' ≠ g := fun e => by subst e; exact hdis _ m1 _ (h1 y hy _ hk').2.2.1 rfl
          rw [if_neg n1, if_neg n2] at e
          exact h2 x hx y hy k k' hk hk' e
    · refine ⟨eb, ?_, ?_⟩
      · intro x hx k hk
        rcases List.mem_cons.1 hx with rfl | hx
        · exact absurd ⟨k, hk⟩ hS
        · obtain ⟨q1, q2, q3, q4⟩ := h1 x hx k hk
          exact ⟨q1, q2, List.mem_append_right _ q3, List.mem_append_right _ q4⟩
      · intro x hx y hy k k' hk hk' e
        rcases List.mem_cons.1 hx with rfl | hx
        · exact absurd ⟨k, hk⟩ hS
        · rcases List.mem_cons.1 hy with rfl | hy
          · exact absurd ⟨k', hk'⟩ hS
          · exact h2 x hx y hy k k' hk hk' e
/-- The environment that a row's list gives: its errors, and the blocks of its tables as they are. -/
theorem laid_env {P : Program} {W : World} {ti tp te ts TE : TypeId} {ms : Array (String × TypeId)} {f : Field}
    (hi : P.underlying ti = some (.interface ms)) (hrow : ∀ u, P.typeName? 3 u = some "*errors.errorString" → u = tp)
    (hp : P.underlying tp = some (.pointer te)) (he : P.underlying te = some (.struct #[f])) (hft : f.type = ts) (hfo : f.offset = 0) (hs : P.underlying ts = some .string) (hc : P.cellsOf te = 1) (hcs : P.cellsOf ts = 1)
    {L : List (String × DataW Unit)} (h : laidMet P L W) (G : Nat → Option D)
    (hG : ∀ g x, G g = some x → x = .sent g ∧ ∃ y ∈ L, SentRow P ti g y) :
    ∃ eb : Nat → Addr, ∀ B : Nat → Bool, EnvOK ⟨tp, TE, eb, G, fun b => if B b then W.heap[b]? else none⟩ W (fun _ => False) := by
  obtain ⟨ps, hv, hnd, hrows⟩ := h
  obtain ⟨eb, h1, h2⟩ := laid_sents hi hrow hp he hft hfo hs hc hcs L ps hv hnd hrows
  refine ⟨eb, fun B => ⟨?_, ?_, ?_, ?_⟩⟩
  · intro g x hg
    obtain ⟨rfl, y, hy, hs⟩ := hG g x hg
    obtain ⟨q1, _, _, _⟩ := h1 y hy g hs
    exact ⟨id, World.block_lt_of_cell? W _ q1, _, q1, rfl, .sent (V := ⟨tp, TE, eb, G, fun b => if B b then W.heap[b]? else none⟩) g⟩
  · intro g hg
    obtain ⟨_, y, hy, hs⟩ := hG g _ hg
    obtain ⟨_, ⟨c, t, hb⟩, _, _⟩ := h1 y hy g hs
    exact ⟨id, (Array.getElem?_eq_some_iff.1 hb).1, c, t, hb⟩
  · intro g g' hg hg' e
    obtain ⟨_, y, hy, hs⟩ := hG g _ hg
    obtain ⟨_, y', hy', hs'⟩ := hG g' _ hg'
    exact h2 y hy y' hy' g g' hs hs' e
  · intro b o hb
    simp only at hb
    split at hb
    · exact ⟨id, (Array.getElem?_eq_some_iff.1 hb).1, hb⟩
    · cases hb
end Go.Aug

/-
  The abstract layer: the bridge from a row's condition to a contract, for every program.
-/
namespace Go.Aug
open Go.ChangeShapes Go.WideShapes Go.RowKit
section
variable {P : Program} {n : Nat} {t e : TypeId} {ds : List D}
theorem hasT_int {k : IntKind} (hu : P.underlying t = some (.int k)) (h : HasT P n t ds) : ∃ m, ds = [.int k m] := by
  cases n with
  | zero => exact h.elim
  | succ n => simp only [HasT, hu] at h; obtain ⟨m, e, _⟩ := h; exact ⟨m, e⟩
theorem hasT_str (hu : P.underlying t = some .string) (h : HasT P n t ds) : ∃ s, ds = [.str s] := by
  cases n with
  | zero => exact h.elim
  | succ n => simp only [HasT, hu] at h; obtain ⟨m, e, _⟩ := h; exact ⟨m, e⟩
theorem hasT_struct {fs : Array Field} (hu : P.underlying t = some (.struct fs)) (h : HasT P n t ds) : ∃ m, n = m + 1 ∧ ds.length = P.cellsOf t ∧ ∀ (i : Nat) (f : Field), fs[i]? = some f → HasT P m f.type ((ds.drop f.offset).take (P.cellsOf f.type)) := by
  cases n with
  | zero => exact h.elim
  | succ n => simp only [HasT, hu] at h; exact ⟨n, rfl, h⟩
end
theorem below_of {Z' : Nat → Prop} {H' : Heap} {W W' : World} (x : Ext (fun _ => False) (fun _ => none) W Z' H' W') : Below W.heap.size W W' :=
  ⟨x.os, x.tape, x.output, x.size, fun k hk => x.block k hk (fun ⟨_, h, _⟩ => by cases h)⟩
end Go.Aug
