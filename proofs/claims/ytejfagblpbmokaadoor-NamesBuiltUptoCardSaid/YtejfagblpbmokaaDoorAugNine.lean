/- The abstract layer: abstract values and heaps, what code does to them, the conditions of its operations as equations; no conditions of its own. -/
import Derived.Test.YtejfagblpbmokaaDoorAugEight
set_option linter.all false
set_option linter.unusedVariables false
set_option linter.unusedSimpArgs false
set_option linter.unusedSectionVars false

/-
  The abstract layer: a call that takes some of the rows that grow, and hands them back grown.
-/
namespace Go.Aug
theorem AccN.weak {H H' R : Heap} {ks : List Nat} {ps : List Pc} (h : AccN H' ks ps R) (hl : LeH H H') : AccN H ks ps R :=
  ⟨hl.trans h.le, fun p hp => (h.at_ p hp).imp id fun ⟨b, v, e1, e2, e3, e4, e5⟩ => ⟨b, v, e1, e2, hl.free e3, e4, e5⟩, h.ap⟩
/-- A row of ours is frozen, and stays where it is. -/
theorem AccN.frozen {H R : Heap} {ks : List Nat} {pre post : List Pc} {p : Pc} {b : Nat} {v : Value} (h : AccN H ks (pre ++ p :: post) R) (ha : p.a = .own b v) :
    H b = Option.none ∧ R b = some (.arr p.E p.sz v p.xs) ∧ AccN (upd H b (.frz v p.xs)) ks (pre ++ post) (upd R b (.frz v p.xs)) := by
  rcases h.mid with ⟨_, e⟩ | ⟨b', v', e, h1, h2, h3, h4⟩
  · rw [ha] at e; cases e
  · rw [ha] at e; cases e
    have w := h.without
    refine ⟨h2, h4, fun k o hk => ?_, fun q hq => ?_, w.ap⟩
    · by_cases e : k = b
      · subst e; simpa [upd] using hk
      · rw [upd_ne _ _ e] at hk ⊢; exact h.le k o hk
    · rcases w.at_ q hq with h5 | ⟨c, u, e1, e2, e3, e4, e5⟩
      · exact .inl h5
      · have hne : c ≠ b := fun e => h.pair hq c (by rw [e1]; rfl) (by rw [ha, e]; rfl)
        exact .inr ⟨c, u, e1, e2, by rw [upd_ne _ _ hne]; exact e3, e4, by rw [upd_ne _ _ hne]; exact e5⟩
end Go.Aug
