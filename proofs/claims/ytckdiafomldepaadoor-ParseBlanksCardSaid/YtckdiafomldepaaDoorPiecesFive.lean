/- Texts piece by piece: what the lexer's and the reader's plain forms make of them; conditions stand in each theorem. -/
import Derived.Test.YtckdiafomldepaaDoorPiecesThree
set_option linter.all false
set_option linter.unusedVariables false
set_option linter.unusedSimpArgs false
set_option linter.unusedSectionVars false

/- Plain: the numbers of the errors that the reader tells. -/
namespace Go.Aug
set_option maxRecDepth 100000
set_option linter.unusedSimpArgs false
def Told (s : RdS) : Prop := 0 ≤ s.err ∧ s.err ≤ 4
def Tells {α : Type} (q : RdS → α × RdS) : Prop := ∀ s, Told s → Told (q s).2
section
variable {l : List Tok} {s : RdS}
theorem rfail_told {e : Int} (h0 : 0 ≤ e) (h4 : e ≤ 4) (h : Told s) : Told (rfail e s) := by
 unfold rfail; split
 ·exact ⟨h0, h4⟩
 ·exact h
theorem rgot_told {t : ByteArray} (h : Told s) : Told (rgot l t s).2 := by
 unfold Told at h ⊢; rw [rgot_err]; exact h
theorem rneed_told {t : ByteArray} (h : Told s) : Told (rneed l t s) := by
 unfold rneed; repeat' split
 ·exact rgot_told h
 ·exact rfail_told (by decide) (by decide) (rgot_told h)
 ·exact h
theorem rnest_told {n : Nat} (h : Told s) : Told (rnest l n s) := by
 unfold rnest; split
 ·exact rfail_told (by decide) (by decide) h
 ·exact h
theorem rword_told (k : Int) : Tells (rword l k) := fun s h => by
 unfold rword; repeat' split
 ·exact rfail_told (by decide) (by decide) h
 ·exact h
 ·exact rfail_told (by decide) (by decide) h
theorem rmoreFin_told {n : Nat} (h : Told s) : Told (rmoreFin l n s).2 := by
 unfold rmoreFin; simp only; split
 ·exact rfail_told (by decide) (by decide) h
 ·exact h
theorem rmore_told {n : Nat} (h : Told s) : Told (rmore l n s).2 := by
 unfold rmore; repeat' split
 ·exact rmoreFin_told (rgot_told h)
 ·exact rgot_told h
 ·exact rgot_told h
 ·exact rmoreFin_told (rneed_told (rgot_told h))
theorem rargs_told {α : Type} {q : RdS → α × RdS} (hq : Tells q) : ∀ (k : Nat) (xs : List α), Tells (rargs q l k xs)
 | 0, _, _, h => h
 | k + 1, xs, s, h => by
  simp only [rargs]
  repeat' split
  ·exact rargs_told hq k _ _ (hq _ (rmore_told h))
  ·exact rmore_told h
  ·exact h
theorem rterm_told : ∀ (f n : Nat), Tells (rterm f l n)
 | 0, _, _, h => h
 | f + 1, n, s, h => by
  have h1 : Told (rnest l n s) := rnest_told h
  have hw := rargs_told (l := l) (rterm_told f (n + 1)) 10 [] _ (rword_told (l := l) 1 _ h1)
  simp only [rterm]
  repeat' split
  ·exact h1
  ·exact h1
  ·exact hw
  ·exact hw
theorem rtype_told : ∀ (f n : Nat), Tells (rtype f l n)
 | 0, _, _, h => h
 | f + 1, n, s, h => by
  have h1 : Told (rnest l n s) := rnest_told h
  have hw := rargs_told (l := l) (rtype_told f (n + 1)) 10 [] _ (rword_told (l := l) 1 _ h1)
  simp only [rtype]
  repeat' split
  ·exact h1
  ·exact rgot_told h1
  ·exact hw
theorem rands_told {q : RdS → Gl × RdS} (hq : Tells q) : ∀ (k : Nat) (gs : List Gl), Tells (rands q l k gs)
 | 0, _, _, h => h
 | k + 1, gs, s, h => by
  simp only [rands]; split
  ·exact rands_told hq k _ _ (hq _ (rgot_told h))
  ·exact h
theorem rway_told {q : RdS → Gl × RdS} (hq : Tells q) : Tells (rway q l) := fun s h => rands_told hq _ _ _ (hq s h)
theorem rors_told {q : RdS → Gl × RdS} (hq : Tells q) : ∀ (k : Nat) (gs : List Gl), Tells (rors q l k gs)
 | 0, _, _, h => h
 | k + 1, gs, s, h => by
  simp only [rors]; repeat' split
  ·exact rors_told hq k _ _ (rgot_told (rway_told hq s h))
  ·exact rway_told hq s h
  ·exact h
theorem rgoalW_told {q : RdS → Gl × RdS} (hq : Tells q) : Tells (rgoalW q l) := fun s h => rors_told hq _ _ s h
theorem rtry_told {q : RdS → Gl × RdS} (hq : Tells q) : Tells (rtry q l) := fun s h => hq _ (rneed_told (rword_told 2 _ (rneed_told (hq s h))))
theorem rcall_told (f n : Nat) : Tells (rcall f l n) := fun s h => by
 have h1 := rterm_told (l := l) f (n + 1) s h
 simp only [rcall]; repeat' split
 ·exact rterm_told f (n + 1) _ (rgot_told h1)
 ·exact h1
 ·exact rfail_told (by decide) (by decide) h1
theorem rprim_told : ∀ (f n : Nat), Tells (rprim f l n)
 | 0, _, _, h => h
 | f + 1, n, s, h => by
  have h1 : Told (rnest l n s) := rnest_told h
  have hq := rprim_told f (n + 1)
  simp only [rprim]
  split
  ·exact rgot_told h1
  split
  ·exact rgot_told h1
  split
  ·exact hq _ (rgot_told h1)
  split
  ·exact rterm_told f (n + 1) _ (rgot_told h1)
  split
  ·exact rtry_told hq _ (rgot_told h1)
  split
  ·exact rneed_told (rgoalW_told hq _ (rgot_told h1))
  ·exact rcall_told f n _ h1
theorem rgoal_told (f n : Nat) : Tells (rgoal f l n) := rgoalW_told (rprim_told f n)
theorem rctor_told : Tells (rctor l) := fun s h => rargs_told (rtype_told 66 1) 10 [] _ (rword_told 1 s h)
theorem rbars_told : ∀ (k : Nat) (cs : List Ct), Tells (rbars l k cs)
 | 0, _, _, h => h
 | k + 1, cs, s, h => by
  simp only [rbars]; split
  ·exact rbars_told k _ _ (rctor_told _ (rgot_told h))
  ·exact h
theorem rwayIn_told : Tells (rwayIn l) := fun s h => by
 unfold rwayIn; split
 ·exact rgot_told h
 ·exact rneed_told h
theorem rdet_told : Tells (rdet l) := fun s h => by
 unfold rdet; repeat' split
 ·exact rgot_told h
 ·exact rgot_told h
 ·exact rgot_told h
 ·exact rgot_told h
 ·exact rfail_told (by decide) (by decide) h
theorem ritem_told : Tells (ritem l) := fun s h => by
 unfold ritem; repeat' split
 ·exact rbars_told _ _ _ (rctor_told _ (rneed_told (rargs_told (rword_told 2) 10 [] _ (rword_told 1 _ (rgot_told h)))))
 ·exact rargs_told (rtype_told 66 1) 10 [] _ (rword_told 1 _ (rgot_told h))
 ·exact rdet_told _ (rneed_told (rargs_told rwayIn_told 10 [] _ (rword_told 1 _ (rgot_told h))))
 ·have h1 := rargs_told (l := l) (rterm_told (l := l) 66 1) 10 [] _ (rword_told (l := l) 1 s h)
  simp only [ritClause]; split
  ·exact rgoal_told 66 1 _ (rgot_told h1)
  ·exact h1
theorem ritems_told : ∀ (k : Nat) (is : List It), Tells (ritems l k is)
 | 0, _, _, h => h
 | k + 1, is, s, h => by
  simp only [ritems]; repeat' split
  ·exact h
  ·exact rfail_told (by decide) (by decide) h
  ·exact ritems_told k _ _ (rneed_told (ritem_told s h))
theorem rdone_told (h : Told s) : Told (rdone l s) := by
 unfold rdone; split
 ·exact ⟨(by decide : (0 : Int) ≤ 2), (by decide : (2 : Int) ≤ 4)⟩
 ·exact h
end
theorem rlex_told (s : ByteArray) : (rlex s).2 = 0 ∨ (rlex s).2 = 1 ∨ (rlex s).2 = 4 := by
 unfold rlex; repeat' split
 ·exact .inr (.inr rfl)
 ·exact .inl rfl
 ·exact .inr (.inl rfl)
theorem le4 {e : Int} (h : 0 ≤ e ∧ e ≤ 4) : e = 0 ∨ e = 1 ∨ e = 2 ∨ e = 3 ∨ e = 4 := by omega
theorem rlex_le (s : ByteArray) : Told ⟨0, (rlex s).2⟩ := by
 unfold Told
 have := rlex_told s
 simp only; omega
theorem rsource_told (s : ByteArray) : 0 ≤ (rsource (rlex s).1 (rlex s).2).2 ∧ (rsource (rlex s).1 (rlex s).2).2 ≤ 4 := by
 unfold rsource
 have := rdone_told (l := (rlex s).1) (ritems_told (l := (rlex s).1) ((rlex s).1.length + 1) [] _ (rlex_le s))
 simp only; split
 ·exact this
 ·exact ⟨Int.le_refl _, (by decide : (0 : Int) ≤ 4)⟩
end Go.Aug
