/- The abstract layer: abstract values and heaps, what code does to them, the conditions of its operations as equations; no conditions of its own. -/
import Derived.Test.YtejfagblpbmokaaDoorAugNine
set_option linter.all false
set_option linter.unusedVariables false
set_option linter.unusedSimpArgs false
set_option linter.unusedSectionVars false

/-
  The abstract layer: steps of what is known of the heap alone: rows are frozen; cells of a row that hold a frozen row's value are read as the row.
-/
namespace Go.Aug
/-- What is known of the heap turns, nothing else does. -/
def HStep (V : Env) (H H2 : Heap) : Prop := ∀ Z w, Mem V Z H w → ∃ Z', Mem V Z' H2 w ∧ Ext Z H w Z' H2 w
section
variable {V : Env} {H H2 H3 : Heap}
theorem HStep.refl : HStep V H H := fun Z w m => ⟨Z, m, .refl ..⟩
theorem HStep.trans (h : HStep V H H2) (k : HStep V H2 H3) : HStep V H H3 := fun Z w m =>
  let ⟨_, m1, x1⟩ := h Z w m
  let ⟨Z2, m2, x2⟩ := k _ w m1
  ⟨Z2, m2, x1.trans m.zlt x2⟩
/-- A row is frozen. -/
theorem HStep.freeze {b : Nat} {v : Value} {E : TypeId} {sz : Nat} {ds : List D} (hb : H b = some (.arr E sz v ds)) (hv : v.ownBlock = some b) : HStep V H (upd H b (.frz v ds)) := fun Z w m => by
  have hk : deepK H (.own b v) fun _ G => G = upd H b (.frz v ds) := by simp only [deepK, hb, true_and]
  obtain ⟨d, H1, Z1, _, m1, x1, rfl⟩ := deepK_sound (V := V) (w := w) (v := v) _ hk m (.own b v hv)
  exact ⟨Z1, m1, x1⟩
/-- Cells of a row that hold frozen rows are read as these rows. -/
def sameCell (H : Heap) (x y : D) : Prop := x = y ∨ (x = .raw (.slice none 0 0) ∧ y = .slice []) ∨ ∃ b v es, x = .raw v ∧ y = .slice es ∧ H b = some (.frz v es)
theorem HStep.cells {b : Nat} {v : Value} {E : TypeId} {sz : Nat} {ds es : List D} (hb : H b = some (.arr E sz v ds)) (hl : es.length = ds.length) (hs : ∀ d ∈ es, (D.cells d).length = sz) (hf : (flat es).length = (flat ds).length)
    (hc : ∀ j (h : j < (flat ds).length) (h' : j < (flat es).length), sameCell H (flat ds)[j] (flat es)[j]) : HStep V H (upd H b (.arr E sz v es)) := fun Z w m => by
  have ho := m.heap b _ hb
  obtain ⟨h1, h2, h3, h4, xs, h5, h6, h7, h8⟩ := ho
  have own : ∀ c, Own (upd H b (.arr E sz v es)) c ↔ Own H c := fun c => by
    by_cases e : c = b
    · subst e
      exact ⟨fun _ => ⟨_, hb, rfl⟩, fun _ => ⟨.arr E sz v es, by simp [upd], rfl⟩⟩
    · constructor
      · rintro ⟨o, ho, hw⟩; rw [upd_ne _ _ e] at ho; exact ⟨o, ho, hw⟩
      · rintro ⟨o, ho, hw⟩; exact ⟨o, by rw [upd_ne _ _ e]; exact ho, hw⟩
  refine ⟨Z, ⟨fun c o hc' => ?_, m.zlt, m.env, fun c o hc' => ?_⟩, ⟨rfl, rfl, rfl, Nat.le_refl _, fun _ _ _ => rfl, fun _ h => .inl h, fun _ h _ => h, fun c h => .inl ((own c).1 h)⟩⟩
  · by_cases e : c = b
    · subst e
      simp only [upd, if_pos] at hc'
      cases hc'
      refine ⟨h1, h2, hs, h4, xs, by rw [hl]; exact h5, by rw [hf]; exact h6, h7, fun j hj hj' => ?_⟩
      have r := h8 j hj (by omega)
      rcases hc j (by omega) hj' with e | ⟨e1, e2⟩ | ⟨b', v', es', e1, e2, e3⟩
      · rw [← e]; exact r
      · rw [e1] at r
        rw [e2]
        have hv : ∀ u, RepD V w Z u (.raw (.slice none 0 0)) → u = .slice none 0 0 := fun u r => by cases r; rfl
        rw [hv _ r]
        exact .empty none 0
      · rw [e1] at r
        rw [e2]
        have hv : ∀ u, RepD V w Z u (.raw v') → u = v' := fun u r => by cases r; rfl
        rw [hv _ r]
        exact m.heap b' _ e3
    · rw [upd_ne _ _ e] at hc'; exact m.heap c o hc'
  · by_cases e : c = b
    · subst e; exact m.lt c _ hb
    · rw [upd_ne _ _ e] at hc'; exact m.lt c o hc'
end
end Go.Aug

/-
  The abstract layer: a contract holds whatever the builds keep raw; arguments may be read anew.
-/
namespace Go.Aug
section
variable {V : Env} {f : TypeId → Bool} {w : World} {Z : Nat → Prop}
theorem RepD.nz {v : Value} {d : D} (h : RepD V w Z v d) : RepD { V with nz := f } w Z v d := by
  induction h with
  | int k n => exact .int k n
  | bool b => exact .bool b
  | str s => exact .str s
  | raw v h => exact .raw v h
  | sent g => exact .sent (V := { V with nz := f }) g
  | empty a c => exact .empty a c
  | slice b o cap es sz cv hk hz hb hs hc h1 hr ih => exact .slice b o cap es sz cv hk hz hb hs hc h1 ih
  | agg cv cs hl h1 hr ih => exact .agg cv cs hl h1 ih
theorem RepA.nz {v : Value} {a : A} (h : RepA V w Z v a) : RepA { V with nz := f } w Z v a := by
  induction h with
  | undef v => exact .undef v
  | d v x h => exact .d v x h.nz
  | nils => exact .nils
  | agg cv cs hl h1 hr ih => exact .agg cv cs hl h1 ih
  | tup cv cs hl hr ih => exact .tup cv cs hl ih
  | ref b off => exact .ref b off
  | imm b o cs cv hz hb hc h1 hr => exact .imm b o cs cv hz hb hc h1 fun j h => (hr j h).nz
  | own b v h => exact .own b v h
  | eref b v sz i off => exact .eref b v sz i off
  | func g cv cs hl hr ih => exact .func g cv cs hl ih
  | mp b => exact .mp b
theorem ObjRep.nz {b : Nat} {o : AObj} (h : ObjRep V w Z b o) : ObjRep { V with nz := f } w Z b o := by
  cases o with
  | var cs =>
    obtain ⟨h1, cv, T, h2, h3, h4, h5⟩ := h
    exact ⟨h1, cv, T, h2, h3, h4, fun j h h' => (h5 j h h').nz⟩
  | arr E sz v ds =>
    obtain ⟨h1, h2, h3, h4, xs, h5, h6, h7, h8⟩ := h
    exact ⟨h1, h2, h3, h4, xs, h5, h6, h7, fun j h h' => (h8 j h h').nz⟩
  | frz v ds => exact RepD.nz h
  | map s m =>
    obtain ⟨h1, h2, es, clock, h3, h4, h5⟩ := h
    exact ⟨h1, h2, es, clock, h3, h4, fun j h h' => ⟨(h5 j h h').1, (h5 j h h').2.nz⟩⟩
theorem EnvOK.nz (h : EnvOK V w Z) : EnvOK { V with nz := f } w Z :=
  ⟨fun g x hg => by
    obtain ⟨h1, h2, v, h3, h5, h4⟩ := h.glob g x hg
    exact ⟨h1, h2, v, h3, h5, h4.nz⟩, h.sent, h.inj, h.fix⟩
theorem Mem.nz {H : Heap} (h : Mem V Z H w) : Mem { V with nz := f } Z H w := ⟨fun b o ho => (h.heap b o ho).nz, h.zlt, h.env.nz, h.lt⟩
theorem ACall.nz {P : Program} {g : FuncId} {args : List A} {H : Heap} {K : A → Heap → Prop} (h : ACall P V g args H K) : ACall P { V with nz := f } g args H K := fun Z w cv hl hr m =>
  (h Z w cv hl (fun j h1 h2 => (hr j h1 h2).nz (f := V.nz)) (m.nz (f := V.nz))).mono fun _ _ ⟨v, r, Z', H', he, rr, m', x', k⟩ => ⟨v, r, Z', H', he, rr.nz, m'.nz, x', k⟩
/-- One abstract value may stand for another. -/
def ReA (a b : A) : Prop := ∀ (V : Env) (w : World) (Z : Nat → Prop) (v : Value), RepA V w Z v a → RepA V w Z v b
theorem ReA.refl (a : A) : ReA a a := fun _ _ _ _ h => h
theorem ReA.raw {v : Value} {b : Nat} (h : v.ownBlock = some b) : ReA (.d (.raw v)) (.own b v) := fun V w Z u r => by
  cases r with
  | d _ _ h' => cases h'; exact .own b _ h
theorem ReA.rawNil : ReA (.d (.raw (.slice none 0 0))) .nils := fun V w Z u r => by
  cases r with
  | d _ _ h' => cases h'; exact .nils
/-- A struct of deep cells, its cells read anew. -/
theorem ReA.agg {ds : List D} {cs : List A} (hl : ds.length = cs.length) (h : ∀ j (h : j < ds.length) (h' : j < cs.length), ReA (.d ds[j]) cs[j]) : ReA (.d (.agg ds)) (.agg cs) := fun V w Z u r => by
  cases r with
  | d _ _ h' =>
    cases h' with
    | agg cv _ hl' h1 hr => exact .agg cv cs (by omega) h1 fun j hj hj' => h j (by omega) hj' V w Z _ (.d _ _ (hr j hj (by omega)))
theorem ACall.re {P : Program} {V : Env} {g : FuncId} {args args' : List A} {H : Heap} {K : A → Heap → Prop} (h : ACall P V g args' H K) (hl : args.length = args'.length) (hr : ∀ j (h : j < args.length) (h' : j < args'.length), ReA args[j] args'[j]) : ACall P V g args H K :=
  fun Z w cv hc rr m => h Z w cv (by omega) (fun j h1 h2 => hr j (by omega) h2 V w Z _ (rr j h1 (by omega))) m
end
end Go.Aug
