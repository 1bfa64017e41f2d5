/- The grammar as plain functions, and what holds of them; no conditions but those in each theorem. -/
import Derived.Test.YtckdiafomldepaaDoorGrammarOne
set_option linter.all false
set_option linter.unusedVariables false
set_option linter.unusedSimpArgs false
set_option linter.unusedSectionVars false

/- Plain: goals, as the program's parser reads them. -/
namespace Go.Aug
set_option maxRecDepth 100000
set_option linter.unusedSimpArgs false
def rjoin (q : RdS → Gl × RdS) (m : ByteArray) (l : List Tok) : Nat → List Gl → RdS → List Gl × RdS
 | 0, gs, s => (gs, s)
 | k + 1, gs, s => if (rgot l m s).1 = true then rjoin q m l k (gs ++ [(q (rgot l m s).2).1]) (q (rgot l m s).2).2 else (gs, s)
def joinOf (kind : Int) (gs : List Gl) : Gl := if gs.length = 1 then gs.headD default else .mk kind .none .none ⟨#[]⟩ [] gs
def rjoined (kind : Int) (m : ByteArray) (q : RdS → Gl × RdS) (l : List Tok) (s : RdS) : Gl × RdS :=
 (joinOf kind (rjoin q m l l.length [(q s).1] (q s).2).1, (rjoin q m l l.length [(q s).1] (q s).2).2)
theorem rjoin_err {q : RdS → Gl × RdS} {m : ByteArray} {l : List Tok} {k : Nat} {gs : List Gl} {s : RdS} (h : s.err ≠ 0) : rjoin q m l k gs s = (gs, s) := by
 cases k with
 | zero => rfl
 | succ k => simp only [rjoin, rgot_errs h, Bool.false_eq_true, if_false]
theorem rjoin_ne {q : RdS → Gl × RdS} {m : ByteArray} {l : List Tok} : ∀ (k : Nat) (gs : List Gl) (s : RdS), gs ≠ [] → (rjoin q m l k gs s).1 ≠ []
 | 0, _, _, h => h
 | k + 1, gs, s, h => by
  simp only [rjoin]; split
  ·exact rjoin_ne k _ _ (by simp)
  ·exact h
theorem rjoin_steps {q : RdS → Gl × RdS} {m : ByteArray} {l : List Tok} (hq : Steps l q) : ∀ (k : Nat) (gs : List Gl), Steps l (rjoin q m l k gs)
 | 0, _ => ⟨fun _ h => h, fun _ => Nat.le_refl _⟩
 | k + 1, gs => by
  constructor
  ·intro s h
   simp only [rjoin]; split
   ·exact (rjoin_steps hq k _).le _ (hq.le _ (rgot_le h))
   ·exact h
  ·intro s
   simp only [rjoin]; split
   ·exact Nat.le_trans (rgot_ge ..) (Nat.le_trans (hq.ge _) ((rjoin_steps hq k _).ge _))
   ·exact Nat.le_refl _
theorem rjoined_steps {kind : Int} {m : ByteArray} {q : RdS → Gl × RdS} {l : List Tok} (hq : Steps l q) : Steps l (rjoined kind m q l) :=
 ⟨fun s h => (rjoin_steps hq _ _).le _ (hq.le s h), fun s => Nat.le_trans (hq.ge s) ((rjoin_steps hq _ _).ge _)⟩
theorem rands_join (q : RdS → Gl × RdS) (l : List Tok) : ∀ (k : Nat) (gs : List Gl) (s : RdS), rands q l k gs s = rjoin q kComma l k gs s
 | 0, _, _ => rfl
 | k + 1, gs, s => by simp only [rands, rjoin, rands_join q l k]
theorem rway_join (q : RdS → Gl × RdS) (l : List Tok) (s : RdS) : rway q l s = rjoined 5 kComma q l s := by
 have hne := rjoin_ne (q := q) (m := kComma) (l := l) l.length [(q s).1] (q s).2 (by simp)
 rw [rway, rands_join, rjoined]
 congr 1
 generalize (rjoin q kComma l l.length [(q s).1] (q s).2).1 = gs at hne ⊢
 unfold allOf joinOf
 have : 0 < gs.length := List.length_pos_iff.2 hne
 by_cases h : gs.length = 1
 ·rw [if_pos h, if_neg (by omega)]
 ·rw [if_neg h, if_pos (by omega)]
theorem rway_steps' {q : RdS → Gl × RdS} {l : List Tok} (hq : Steps l q) : Steps l (rway q l) := by
 have := rjoined_steps (kind := 5) (m := kComma) hq
 exact ⟨fun s h => by rw [rway_join]; exact this.le s h, fun s => by rw [rway_join]; exact this.ge s⟩
theorem rors_join {q : RdS → Gl × RdS} {l : List Tok} (hq : Steps l q) : ∀ (k : Nat) (os : List Gl) (s : RdS), s.err = 0 → l.length ≤ k + s.pos → rors q l (k + 1) os s = rjoin (rway q l) kSemi l k (os ++ [(rway q l s).1]) (rway q l s).2
 | 0, os, s, he, hk => by
  have hge := (rway_steps' hq).ge s
  have hno : (rgot l kSemi (rway q l s).2).1 = false := by
   cases h : (rgot l kSemi (rway q l s).2).1 with
   | false => rfl
   | true => have := (rgot_true h).2.2; omega
  simp only [rors, rjoin, if_pos he, hno, Bool.false_eq_true, if_false]
 | k + 1, os, s, he, hk => by
  have hge := (rway_steps' hq).ge s
  rw [rors, rjoin, if_pos he]
  cases h : (rgot l kSemi (rway q l s).2).1 with
  | false => simp only [Bool.false_eq_true, if_false]
  | true =>
   obtain ⟨h1, h2, h3⟩ := rgot_true h
   simp only [if_true]
   exact rors_join hq k _ _ (by rw [rgot_err]; exact h1) (by omega)
theorem rgoal_join {q : RdS → Gl × RdS} {l : List Tok} (hq : Steps l q) {s : RdS} (he : s.err = 0) : rgoalW q l s = rjoined 6 kSemi (rjoined 5 kComma q l) l s := by
 have e : rway q l = rjoined 5 kComma q l := funext (rway_join q l)
 rw [rgoalW, rors_join hq l.length [] s he (by omega), e, rjoined]
 rfl
theorem rprim_sticky (l : List Tok) : ∀ (f n : Nat), Sticky (rprim f l n)
 | 0, n, s, h => rfl
 | f + 1, n, s, h => by
  have ht := rterm_sticky l f (n + 1) s h
  have ht2 : (rterm f l (n + 1) s).2.err ≠ 0 := by rw [ht]; exact h
  simp only [rprim, rnest_err h, rgot_errs h, Bool.false_eq_true, if_false, rcall, rgot_errs ht2, rfail, if_neg ht2]
  split <;> exact ht
theorem rprim_nerr {l : List Tok} {f n : Nat} {s : RdS} (h : (rnest l n s).err ≠ 0) : (rprim (f + 1) l n s).2.err = (rnest l n s).err := by
 have ht := rterm_sticky l f (n + 1) _ h
 have ht2 : (rterm f l (n + 1) (rnest l n s)).2.err ≠ 0 := by rw [ht]; exact h
 simp only [rprim, rgot_errs h, Bool.false_eq_true, if_false, rcall, rgot_errs ht2, rfail, if_neg ht2]
 split <;> exact ht
theorem rnest_64 {l : List Tok} {n : Nat} {s : RdS} (he : s.err = 0) (h : (rnest l n s).err = 0) (hl : s.pos < l.length) : n ≤ 64 := by
 rw [rnest_is he] at h
 apply Classical.byContradiction; intro hh
 rw [if_pos ⟨by omega, hl⟩] at h
 cases h
/-- A try, step by step, from a state without an error. -/
theorem rtry_is {q : RdS → Gl × RdS} {l : List Tok} {s : RdS} (hq : Sticky q) : (rtry q l s).1 = .mk 9 .none .none (rword l 2 (rneed l kCatch (q s).2)).1 [] [(q s).1, (q (rneed l kThen (rword l 2 (rneed l kCatch (q s).2)).2)).1] ∧ (rtry q l s).2 = (q (rneed l kThen (rword l 2 (rneed l kCatch (q s).2)).2)).2 := ⟨rfl, rfl⟩
theorem rtry_e1 {q : RdS → Gl × RdS} {l : List Tok} {s : RdS} (hq : Sticky q) (h : (q s).2.err ≠ 0) : (rtry q l s).2.err = (q s).2.err := by
 simp only [rtry, rneed_err h, rword_err h]; exact hq _ h
theorem rtry_e2 {q : RdS → Gl × RdS} {l : List Tok} {s : RdS} (hq : Sticky q) (h : (rneed l kCatch (q s).2).err ≠ 0) : (rtry q l s).2.err = (rneed l kCatch (q s).2).err := by
 simp only [rtry, rword_err h, rneed_err h]; exact hq _ h
theorem rtry_e3 {q : RdS → Gl × RdS} {l : List Tok} {s : RdS} (hq : Sticky q) (h : (rword l 2 (rneed l kCatch (q s).2)).2.err ≠ 0) : (rtry q l s).2.err = (rword l 2 (rneed l kCatch (q s).2)).2.err := by
 simp only [rtry, rneed_err h]; exact hq _ h
theorem rtry_e4 {q : RdS → Gl × RdS} {l : List Tok} {s : RdS} (hq : Sticky q) (h : (rneed l kThen (rword l 2 (rneed l kCatch (q s).2)).2).err ≠ 0) : (rtry q l s).2.err = (rneed l kThen (rword l 2 (rneed l kCatch (q s).2)).2).err := by
 simp only [rtry]; exact hq _ h
end Go.Aug
