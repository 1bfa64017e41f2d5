/- The abstract layer: abstract values and heaps, what code does to them, the conditions of its operations as equations; no conditions of its own. -/
import Derived.Test.YtejfagblpbmokaaDoorAugFour
import Derived.Defers
import Derived.Below
set_option linter.all false
set_option linter.unusedVariables false
set_option linter.unusedSimpArgs false
set_option linter.unusedSectionVars false

/-
  The abstract layer, part V: a row that is appended to, round by round.
-/
namespace Go.Aug
/-- Over the heap G, in H, the value is a row of ours that holds l, or nil. -/
def AccAt (G : Heap) (E : TypeId) (sz : Nat) (l : List D) (a : A) (H : Heap) : Prop :=
  LeH G H ∧ ((l = [] ∧ a = .nils) ∨ ∃ b v, a = .own b v ∧ G b = none ∧ v.ownBlock = some b ∧ H b = some (.arr E sz v l))
theorem AccAt.nils (G : Heap) (E : TypeId) (sz : Nat) : AccAt G E sz [] .nils G := ⟨.refl _, .inl ⟨rfl, rfl⟩⟩
theorem AccAt.own {G H : Heap} {E : TypeId} {sz : Nat} {l : List D} {b : Nat} {v : Value} (hle : LeH G H) (hb : G b = none) (hv : v.ownBlock = some b) (hH : H b = some (.arr E sz v l)) : AccAt G E sz l (.own b v) H :=
  ⟨hle, .inr ⟨b, v, rfl, hb, hv, hH⟩⟩
theorem LeH.free {G H : Heap} (h : LeH G H) {b : Nat} (hb : H b = none) : G b = none := by
  cases hg : G b with
  | none => rfl
  | some o => rw [h b o hg] at hb; cases hb
theorem LeH.up {G H : Heap} {b : Nat} {o : AObj} (h : LeH G H) (hb : H b = none) : LeH G (upd H b o) := leH_upd (h.free hb) h
theorem AccAt.up {G H : Heap} {E : TypeId} {sz : Nat} {l : List D} {a : A} (h : AccAt G E sz l a H) {b : Nat} {o : AObj} (hb : H b = none) : AccAt G E sz l a (upd H b o) := by
  obtain ⟨hle, h⟩ := h
  refine ⟨hle.up hb, ?_⟩
  rcases h with h | ⟨c, v, ha, hc, hv, hH⟩
  · exact .inl h
  · refine .inr ⟨c, v, ha, hc, hv, ?_⟩
    unfold upd
    split
    · rename_i e; subst e; rw [hb] at hH; cases hH
    · exact hH
theorem AccAt.le {G H : Heap} {E : TypeId} {sz : Nat} {l : List D} {a : A} (h : AccAt G E sz l a H) : LeH G H := h.1
theorem appTo_acc {G H : Heap} {E : TypeId} {sz by_ : Nat} {l ns : List D} {a : A} {K : A → Heap → Prop} (h : AccAt G E sz l a H) (hsz : (l.length + ns.length) * by_ ≤ 140737488355328)
    (hK : ∀ a' H', AccAt G E sz (l ++ ns) a' H' → K a' H') : appTo a ns E sz by_ H K := by
  obtain ⟨hle, ⟨rfl, rfl⟩ | ⟨b, v, rfl, hb, hv, hH⟩⟩ := h
  · refine appTo_nils' (by simpa using hsz) ?_ ?_
    · rintro rfl; exact hK _ _ ⟨hle, .inl ⟨rfl, rfl⟩⟩
    · intro _ b v hb hv
      exact hK _ _ (AccAt.own (hle.up hb) (hle.free hb) hv (by simp [upd]))
  · simp only [appTo, hH, true_and]
    refine ⟨hsz, ?_⟩
    intro b' v' hb' hv'
    have hg : G b' = none := by rcases hb' with rfl | hb'; exact hb; exact hle.free hb'
    exact hK _ _ (AccAt.own (leH_upd hg (leH_del hb hle)) hg hv' (by simp [upd]))
/-- The same row, let go. -/
theorem AccAt.deep {G H : Heap} {E : TypeId} {sz : Nat} {l : List D} {a : A} {K : D → Heap → Prop} (h : AccAt G E sz l a H) (hK : ∀ H', LeH G H' → K (.slice l) H') : deepK H a K := by
  obtain ⟨hle, ⟨rfl, rfl⟩ | ⟨b, v, rfl, hb, hv, hH⟩⟩ := h
  · simp only [deepK_nils]; exact hK _ hle
  · simp only [deepK, hH]; exact ⟨trivial, hK _ (leH_upd hb hle)⟩
theorem lenable_acc {P : Program} {t : TypeId} {G H : Heap} {E : TypeId} {sz : Nat} {l : List D} {a : A} (h : AccAt G E sz l a H) (ht : isSliceT P t = true) : lenable P t a = true := by
  obtain ⟨hle, ⟨rfl, rfl⟩ | ⟨b, v, rfl, hb, hv, hH⟩⟩ := h
  · rw [lenable_nils, ht]
  · rw [lenable_own, ht]
@[go_sem] theorem frzM_empty {ms : List Bool} {H : Heap} {K : List A → Heap → Prop} : frzM ms H [] K = K [] H := by
  rcases ms with _ | ⟨m, ms⟩
  · simp only [frzM]
  · cases m <;> simp only [frzM]
theorem upd_upd {H : Heap} {b : Nat} {o o' : AObj} : upd (upd H b o) b o' = upd H b o' := by
  funext k; unfold upd; split <;> rfl
theorem upd_comm {H : Heap} {b c : Nat} {o o' : AObj} (h : b ≠ c) : upd (upd H b o) c o' = upd (upd H c o') b o := by
  funext k; unfold upd; split <;> split <;> simp_all
/-- Another block of the heap below is written. -/
theorem AccAt.set {G H : Heap} {E : TypeId} {sz : Nat} {l : List D} {a : A} (h : AccAt G E sz l a H) {b : Nat} {o o' : AObj} (hb : G b = some o) : AccAt (upd G b o') E sz l a (upd H b o') := by
  obtain ⟨hle, h⟩ := h
  refine ⟨leH_both hle, ?_⟩
  rcases h with h | ⟨c, v, ha, hc, hv, hH⟩
  · exact .inl h
  · have : c ≠ b := by rintro rfl; rw [hb] at hc; cases hc
    exact .inr ⟨c, v, ha, by simp [upd, this, hc], hv, by simp [upd, this, hH]⟩
theorem AccAt.some {G H : Heap} {E : TypeId} {sz : Nat} {l : List D} {a : A} (h : AccAt G E sz l a H) (hl : l ≠ []) : ∃ b v, a = .own b v ∧ G b = none ∧ v.ownBlock = Option.some b ∧ H b = Option.some (.arr E sz v l) := by
  rcases h.2 with ⟨h1, _⟩ | h
  · exact absurd h1 hl
  · exact h
end Go.Aug

/-
  The abstract layer, part X: what is handed back out of a variable. (LiveT has these lines, too: never both in one claim.)
-/
namespace Go.Aug
def resD : Option AObj → Nat → Option (Bool × Nat) → Option A
  | some (.var cs), off, some (true, n) => if off + n ≤ cs.length then some (aggN ((cs.drop off).take n)) else none
  | some (.var cs), off, some (false, _) => cs[off]?
  | _, _, _ => none
def resC : A → Heap → Option (Bool × Nat) → Option A
  | .ref b off, H, s => resD (H b) off s
  | _, _, _ => none
@[go_sem] theorem resOf_cell {P : Program} {V : Env} {N : Nat} {F : Nat → A} {H : Heap} {a : Nat} {t : TypeId} : resOf P V N F H (.cell a t) = resC (ev V N F (.tmp a)) H (tshape P t) := by
  simp only [resOf]
  generalize ev V N F (.tmp a) = x
  cases x with
  | ref b off =>
    simp only [resC]
    generalize H b = o
    cases o with
    | none => rfl
    | some o =>
      cases o with
      | var cs =>
        cases tshape P t with
        | none => rfl
        | some s => obtain ⟨g, n⟩ := s; cases g <;> rfl
      | _ => rfl
  | _ => rfl
@[go_sem] theorem resC_ref {b off : Nat} {H : Heap} {s : Option (Bool × Nat)} : resC (.ref b off) H s = resD (H b) off s := Eq.trans rfl rfl
@[go_sem] theorem resD_agg {cs : List A} {off n : Nat} (h : off + n ≤ cs.length) : resD (some (.var cs)) off (some (true, n)) = some (aggN ((cs.drop off).take n)) := if_pos h
end Go.Aug

/-
  The abstract layer: calls whose world behind is known to be no other below; functions that defer one closure.
-/
namespace Go.Aug
open Go.RowKit
section
variable {P : Program} {V : Env} {N : Nat} {Z : Nat → Prop} {H : Heap} {w w' : World}
/-- What is called with nothing at hand leaves what is at hand. -/
theorem ACall.keep {f : FuncId} {args : List A} {K : A → Prop} (h : ACall P V f args (fun _ => none) (fun r _ => K r)) : ACall P V f args H (fun r H' => K r ∧ H' = H) := by
  intro Z w cv hl hr m
  have no : ∀ b, ¬ Own (fun _ => none) b := fun b ⟨o, ho, _⟩ => by cases ho
  refine (h Z w cv hl hr (m.le fun b o hb => by cases hb)).mono ?_
  rintro e w' ⟨v, r, Z', H', rfl, rr, m', x', k⟩
  have kk : Keeps Z w Z' w' := x'.keeps (fun b hb => (no b hb).elim)
  refine ⟨v, r, Z', H, rfl, rr, ⟨?_, m'.zlt, m'.env, fun b o hb => Nat.lt_of_lt_of_le (m.lt b o hb) x'.size⟩, ?_, k, rfl⟩
  · intro b o hb
    exact (m.heap b o hb).keep kk fun hw => ⟨x'.zold b (m.own b ⟨o, hb, hw⟩) (no b), x'.block b (m.lt b o hb) (no b)⟩
  · exact ⟨x'.os, x'.tape, x'.output, x'.size, fun b hb _ => x'.block b hb (no b), x'.znew, fun b hz _ => x'.zold b hz (no b), fun b hb => .inl hb⟩
end
end Go.Aug
