/- The grammar as plain functions, and what holds of them; no conditions but those in each theorem. -/
import Derived.Test.YtckdiafomldepaaDoorGrammarOne
set_option linter.all false
set_option linter.unusedVariables false
set_option linter.unusedSimpArgs false
set_option linter.unusedSectionVars false

/- Plain: a row of things, as the program's parser reads it. -/
namespace Go.Aug
set_option maxRecDepth 100000
set_option linter.unusedSimpArgs false
theorem rend_eq {l : List Tok} {s : RdS} (he : s.err = 0) : rend l s = decide (l.length ≤ s.pos) := by simp [rend, he]
def rowHd {α : Type} (q : RdS → α × RdS) (l : List Tok) (k : Nat) (xs : List α) (s : RdS) : List α × RdS :=
 if (rmoreFin l xs.length s).1 = true then rargs q l k (xs ++ [(q (rmoreFin l xs.length s).2).1]) (q (rmoreFin l xs.length s).2).2 else (xs, (rmoreFin l xs.length s).2)
theorem rargs_open {α : Type} {q : RdS → α × RdS} {l : List Tok} {k : Nat} {s : RdS} (he : s.err = 0) : rargs q l (k + 1) [] s = if (rgot l ⟨#[40]⟩ s).1 = true then rowHd q l k [] (rgot l ⟨#[40]⟩ s).2 else ([], s) := by
 simp only [rargs, if_pos he, rmore, List.length_nil, if_true, rowHd]
 cases h : (rgot l ⟨#[40]⟩ s).1 with
 | true => simp only [if_true]
 | false => simp only [Bool.false_eq_true, if_false, rgot_false h]
theorem rowHd_bad {α : Type} {q : RdS → α × RdS} {l : List Tok} {k : Nat} {xs : List α} {s : RdS} (he : s.err = 0) (h8 : xs.length = 8) (hl : s.pos < l.length) : rowHd q l k xs s = (xs, ⟨s.pos, 4⟩) := by
 have hr : rend l s = false := by rw [rend_eq he]; simp; omega
 have hf : rmoreFin l xs.length s = (false, ⟨s.pos, 4⟩) := by
  rw [rmoreFin, if_pos ⟨h8, hr⟩, rfail, if_pos he]; rfl
 rw [rowHd, hf]; simp only [Bool.false_eq_true, if_false]
theorem rowHd_go {α : Type} {q : RdS → α × RdS} {l : List Tok} {k : Nat} {xs : List α} {s : RdS} (he : s.err = 0) (h : ¬ (xs.length = 8 ∧ s.pos < l.length)) : rowHd q l k xs s = rargs q l k (xs ++ [(q s).1]) (q s).2 := by
 have hf : rmoreFin l xs.length s = (true, s) := by
  rw [rmoreFin, if_neg, he]; rfl
  rintro ⟨h1, h2⟩
  rw [rend_eq he] at h2
  exact h ⟨h1, by simpa using h2⟩
 rw [rowHd, hf]; simp only [if_true]
theorem rargs_close {α : Type} {q : RdS → α × RdS} {l : List Tok} {k : Nat} {xs : List α} {s : RdS} (he : s.err = 0) (hx : xs ≠ []) (hg : (rgot l ⟨#[41]⟩ s).1 = true) : rargs q l (k + 1) xs s = (xs, (rgot l ⟨#[41]⟩ s).2) := by
 have h0 : ¬ xs.length = 0 := fun e => hx (List.length_eq_zero_iff.1 e)
 have e : rmore l xs.length s = (false, (rgot l ⟨#[41]⟩ s).2) := by rw [rmore, if_neg h0, if_pos (.inl hg)]
 simp only [rargs, if_pos he, e, Bool.false_eq_true, if_false]
theorem rargs_comma {α : Type} {q : RdS → α × RdS} {l : List Tok} {k : Nat} {xs : List α} {s : RdS} (he : s.err = 0) (hx : xs ≠ []) (hg : (rgot l ⟨#[41]⟩ s).1 = false) :
  rargs q l (k + 1) xs s = if (rneed l ⟨#[44]⟩ s).err = 0 then rowHd q l k xs (rneed l ⟨#[44]⟩ s) else (xs, rneed l ⟨#[44]⟩ s) := by
 have h0 : ¬ xs.length = 0 := fun e => hx (List.length_eq_zero_iff.1 e)
 have e : rmore l xs.length s = rmoreFin l xs.length (rneed l ⟨#[44]⟩ s) := by
  rw [rmore, if_neg h0, rgot_false hg, if_neg]
  rintro (h | h)
  ·rw [hg] at h; cases h
  ·exact h he
 simp only [rargs, if_pos he, e]
 by_cases h1 : (rneed l ⟨#[44]⟩ s).err = 0
 ·rw [if_pos h1, rowHd]
 ·have hf : rmoreFin l xs.length (rneed l ⟨#[44]⟩ s) = (false, rneed l ⟨#[44]⟩ s) := by
   rw [rmoreFin, if_neg]
   ·simp [h1]
   ·rintro ⟨_, h2⟩
    exact h1 (rend_tok h2).1
  rw [if_neg h1, hf]; simp only [Bool.false_eq_true, if_false]
@[go_sem] theorem deepL_map {H : Heap} : ∀ {ds : List D} {K : List D → Heap → Prop}, deepL H (ds.map A.d) K = K ds H
 | [], K => by simp only [List.map_nil, deepL]
 | d :: ds, K => by simp only [List.map_cons, deepL, deepK]; exact deepL_map (ds := ds) (K := fun ds H => K (d :: ds) H)
structure PRow (α : Type) where
 k : Nat
 xs : List α
 s : RdS
 a : A
 R : Heap
def rpeek (l : List Tok) (n : Nat) : Tok := match l[n]? with
 | some t => t
 | none => ⟨0, ⟨#[]⟩, 0⟩
theorem rpeek_some {l : List Tok} {n : Nat} {t : Tok} (h : l[n]? = some t) : rpeek l n = t := by rw [rpeek, h]
theorem rpeek_none {l : List Tok} {n : Nat} (h : l.length ≤ n) : rpeek l n = ⟨0, ⟨#[]⟩, 0⟩ := by rw [rpeek, List.getElem?_eq_none h]
theorem rnest_is {l : List Tok} {n : Nat} {s : RdS} (he : s.err = 0) : rnest l n s = if 64 < n ∧ s.pos < l.length then ⟨s.pos, 3⟩ else s := by
 unfold rnest rend rfail
 rw [he]
 by_cases h : s.pos < l.length
 ·have h2 : ¬ l.length ≤ s.pos := by omega
  simp [h, h2]
 ·have h2 : l.length ≤ s.pos := by omega
  simp [h, h2]
theorem rnest_ok {l : List Tok} {n : Nat} {s : RdS} (he : s.err = 0) (h : (rnest l n s).err = 0) : rnest l n s = s := by
 rw [rnest_is he] at h ⊢
 split at h
 ·cases h
 ·rename_i hh; rw [if_neg hh]
theorem rword_err {l : List Tok} {k : Int} {s : RdS} (h : s.err ≠ 0) : rword l k s = (⟨#[]⟩, s) := by
 have hr : rend l s = true := by simp [rend, h]
 simp [rword, hr, rfail, h]
theorem rgot_errs {l : List Tok} {t : ByteArray} {s : RdS} (h : s.err ≠ 0) : rgot l t s = (false, s) := by
 have hr : rend l s = true := by simp [rend, h]
 simp [rgot, ris, hr]
theorem rneed_err {l : List Tok} {t : ByteArray} {s : RdS} (h : s.err ≠ 0) : rneed l t s = s := by rw [rneed, if_neg h]
theorem rnest_err {l : List Tok} {n : Nat} {s : RdS} (h : s.err ≠ 0) : rnest l n s = s := by
 have hr : rend l s = true := by simp [rend, h]
 simp [rnest, hr]
/-- What meets an error hands it on. -/
def Sticky {α : Type} (q : RdS → α × RdS) : Prop := ∀ s, s.err ≠ 0 → (q s).2.err = s.err
theorem rterm_sticky (l : List Tok) : ∀ (f n : Nat), Sticky (rterm f l n)
 | 0, n, s, h => rfl
 | f + 1, n, s, h => by
  have hr : rend l s = true := by simp [rend, h]
  simp only [rterm, rnest_err h, hr, if_true, rword_err h, rargs_stop h]
theorem rterm_is {f n : Nat} {l : List Tok} {s : RdS} (he : s.err = 0) (h : (rnest l n s).err = 0) : rterm (f + 1) l n s =
  if (rpeek l s.pos).kind = 2 then (.mk 1 (rpeek l s.pos).text 0 [], ⟨s.pos + 1, 0⟩) else if (rpeek l s.pos).kind = 3 then (.mk 2 ⟨#[]⟩ (rpeek l s.pos).int [], ⟨s.pos + 1, 0⟩)
  else (.mk 3 (rword l 1 s).1 0 (rargs (rterm f l (n + 1)) l 10 [] (rword l 1 s).2).1, (rargs (rterm f l (n + 1)) l 10 [] (rword l 1 s).2).2) := by
 have hn := rnest_ok he h
 cases hk : l[s.pos]? with
 | none =>
  have hl := List.getElem?_eq_none_iff.1 hk
  have hr : rend l s = true := by rw [rend_eq he]; simp [hl]
  rw [rpeek_none hl]
  simp only [rterm, hn, hr, if_true]
  rw [if_neg (by decide), if_neg (by decide)]
 | some k =>
  have hl := (List.getElem?_eq_some_iff.1 hk).1
  have hr : rend l s = false := by rw [rend_eq he]; simp; omega
  rw [rpeek_some hk]
  simp only [rterm, hn, hr, hk, Bool.false_eq_true, if_false, he]
  by_cases h3 : k.kind = 3
  ·rw [if_pos h3, if_neg (by omega), if_pos h3]
  ·rw [if_neg h3]
   by_cases h2 : k.kind = 2
   ·rw [if_pos h2, if_pos h2]
   ·rw [if_neg h2, if_neg h2, if_neg h3]
theorem rtype_is {f n : Nat} {l : List Tok} {s : RdS} (he : s.err = 0) (h : (rnest l n s).err = 0) : rtype (f + 1) l n s =
  if (rpeek l s.pos).kind = 2 then (.mk true (rpeek l s.pos).text [], ⟨s.pos + 1, 0⟩) else if (rgot l kInt s).1 = true then (.mk false kInt [], (rgot l kInt s).2)
  else (.mk false (rword l 1 s).1 (rargs (rtype f l (n + 1)) l 10 [] (rword l 1 s).2).1, (rargs (rtype f l (n + 1)) l 10 [] (rword l 1 s).2).2) := by
 have hn := rnest_ok he h
 cases hk : l[s.pos]? with
 | none =>
  have hl := List.getElem?_eq_none_iff.1 hk
  have hr : rend l s = true := by rw [rend_eq he]; simp [hl]
  have hv : varTok l s = none := by rw [varTok, if_pos hr]
  rw [rpeek_none hl]
  simp only [rtype, hn, hv]
  rw [if_neg (c := (0 : Int) = 2) (by decide)]
 | some k =>
  have hl := (List.getElem?_eq_some_iff.1 hk).1
  have hr : rend l s = false := by rw [rend_eq he]; simp; omega
  rw [rpeek_some hk]
  by_cases h2 : k.kind = 2
  ·have hv : varTok l s = some k := by simp [varTok, hr, hk, h2]
   rw [if_pos h2]
   simp only [rtype, hn, hv, he]
  ·have hv : varTok l s = none := by simp [varTok, hr, hk, h2]
   rw [if_neg h2]
   simp only [rtype, hn, hv]

def rjoin (q : RdS → Gl × RdS) (m : ByteArray) (l : List Tok) : Nat → List Gl → RdS → List Gl × RdS
 | 0, gs, s => (gs, s)
 | k + 1, gs, s => if (rgot l m s).1 = true then rjoin q m l k (gs ++ [(q (rgot l m s).2).1]) (q (rgot l m s).2).2 else (gs, s)
def joinOf (kind : Int) (gs : List Gl) : Gl := if gs.length = 1 then gs.headD default else .mk kind .none .none ⟨#[]⟩ [] gs
def rjoined (kind : Int) (m : ByteArray) (q : RdS → Gl × RdS) (l : List Tok) (s : RdS) : Gl × RdS :=
 (joinOf kind (rjoin q m l l.length [(q s).1] (q s).2).1, (rjoin q m l l.length [(q s).1] (q s).2).2)
theorem rjoin_err {q : RdS → Gl × RdS} {m : ByteArray} {l : List Tok} {k : Nat} {gs : List Gl} {s : RdS} (h : s.err ≠ 0) : rjoin q m l k gs s = (gs, s) := by
 cases k with
 | zero => rfl
 | succ k => simp only [rjoin, rgot_errs h, Bool.false_eq_true, if_false]
theorem rjoin_ne {q : RdS → Gl × RdS} {m : ByteArray} {l : List Tok} : ∀ (k : Nat) (gs : List Gl) (s : RdS), gs ≠ [] → (rjoin q m l k gs s).1 ≠ []
 | 0, _, _, h => h
 | k + 1, gs, s, h => by
  simp only [rjoin]; split
  ·exact rjoin_ne k _ _ (by simp)
  ·exact h
theorem rjoin_steps {q : RdS → Gl × RdS} {m : ByteArray} {l : List Tok} (hq : Steps l q) : ∀ (k : Nat) (gs : List Gl), Steps l (rjoin q m l k gs)
 | 0, _ => ⟨fun _ h => h, fun _ => Nat.le_refl _⟩
 | k + 1, gs => by
  constructor
  ·intro s h
   simp only [rjoin]; split
   ·exact (rjoin_steps hq k _).le _ (hq.le _ (rgot_le h))
   ·exact h
  ·intro s
   simp only [rjoin]; split
   ·exact Nat.le_trans (rgot_ge ..) (Nat.le_trans (hq.ge _) ((rjoin_steps hq k _).ge _))
   ·exact Nat.le_refl _
theorem rjoined_steps {kind : Int} {m : ByteArray} {q : RdS → Gl × RdS} {l : List Tok} (hq : Steps l q) : Steps l (rjoined kind m q l) :=
 ⟨fun s h => (rjoin_steps hq _ _).le _ (hq.le s h), fun s => Nat.le_trans (hq.ge s) ((rjoin_steps hq _ _).ge _)⟩
theorem rands_join (q : RdS → Gl × RdS) (l : List Tok) : ∀ (k : Nat) (gs : List Gl) (s : RdS), rands q l k gs s = rjoin q kComma l k gs s
 | 0, _, _ => rfl
 | k + 1, gs, s => by simp only [rands, rjoin, rands_join q l k]
theorem rway_join (q : RdS → Gl × RdS) (l : List Tok) (s : RdS) : rway q l s = rjoined 5 kComma q l s := by
 have hne := rjoin_ne (q := q) (m := kComma) (l := l) l.length [(q s).1] (q s).2 (by simp)
 rw [rway, rands_join, rjoined]
 congr 1
 generalize (rjoin q kComma l l.length [(q s).1] (q s).2).1 = gs at hne ⊢
 unfold allOf joinOf
 have : 0 < gs.length := List.length_pos_iff.2 hne
 by_cases h : gs.length = 1
 ·rw [if_pos h, if_neg (by omega)]
 ·rw [if_neg h, if_pos (by omega)]
theorem rway_steps' {q : RdS → Gl × RdS} {l : List Tok} (hq : Steps l q) : Steps l (rway q l) := by
 have := rjoined_steps (kind := 5) (m := kComma) hq
 exact ⟨fun s h => by rw [rway_join]; exact this.le s h, fun s => by rw [rway_join]; exact this.ge s⟩
theorem rors_join {q : RdS → Gl × RdS} {l : List Tok} (hq : Steps l q) : ∀ (k : Nat) (os : List Gl) (s : RdS), s.err = 0 → l.length ≤ k + s.pos → rors q l (k + 1) os s = rjoin (rway q l) kSemi l k (os ++ [(rway q l s).1]) (rway q l s).2
 | 0, os, s, he, hk => by
  have hge := (rway_steps' hq).ge s
  have hno : (rgot l kSemi (rway q l s).2).1 = false := by
   cases h : (rgot l kSemi (rway q l s).2).1 with
   | false => rfl
   | true => have := (rgot_true h).2.2; omega
  simp only [rors, rjoin, if_pos he, hno, Bool.false_eq_true, if_false]
 | k + 1, os, s, he, hk => by
  have hge := (rway_steps' hq).ge s
  rw [rors, rjoin, if_pos he]
  cases h : (rgot l kSemi (rway q l s).2).1 with
  | false => simp only [Bool.false_eq_true, if_false]
  | true =>
   obtain ⟨h1, h2, h3⟩ := rgot_true h
   simp only [if_true]
   exact rors_join hq k _ _ (by rw [rgot_err]; exact h1) (by omega)
theorem rgoal_join {q : RdS → Gl × RdS} {l : List Tok} (hq : Steps l q) {s : RdS} (he : s.err = 0) : rgoalW q l s = rjoined 6 kSemi (rjoined 5 kComma q l) l s := by
 have e : rway q l = rjoined 5 kComma q l := funext (rway_join q l)
 rw [rgoalW, rors_join hq l.length [] s he (by omega), e, rjoined]
 rfl
theorem rprim_sticky (l : List Tok) : ∀ (f n : Nat), Sticky (rprim f l n)
 | 0, n, s, h => rfl
 | f + 1, n, s, h => by
  have ht := rterm_sticky l f (n + 1) s h
  have ht2 : (rterm f l (n + 1) s).2.err ≠ 0 := by rw [ht]; exact h
  simp only [rprim, rnest_err h, rgot_errs h, Bool.false_eq_true, if_false, rcall, rgot_errs ht2, rfail, if_neg ht2]
  split <;> exact ht
theorem rprim_nerr {l : List Tok} {f n : Nat} {s : RdS} (h : (rnest l n s).err ≠ 0) : (rprim (f + 1) l n s).2.err = (rnest l n s).err := by
 have ht := rterm_sticky l f (n + 1) _ h
 have ht2 : (rterm f l (n + 1) (rnest l n s)).2.err ≠ 0 := by rw [ht]; exact h
 simp only [rprim, rgot_errs h, Bool.false_eq_true, if_false, rcall, rgot_errs ht2, rfail, if_neg ht2]
 split <;> exact ht
theorem rnest_64 {l : List Tok} {n : Nat} {s : RdS} (he : s.err = 0) (h : (rnest l n s).err = 0) (hl : s.pos < l.length) : n ≤ 64 := by
 rw [rnest_is he] at h
 apply Classical.byContradiction; intro hh
 rw [if_pos ⟨by omega, hl⟩] at h
 cases h
/-- A try, step by step, from a state without an error. -/
theorem rtry_is {q : RdS → Gl × RdS} {l : List Tok} {s : RdS} (hq : Sticky q) : (rtry q l s).1 = .mk 9 .none .none (rword l 2 (rneed l kCatch (q s).2)).1 [] [(q s).1, (q (rneed l kThen (rword l 2 (rneed l kCatch (q s).2)).2)).1] ∧ (rtry q l s).2 = (q (rneed l kThen (rword l 2 (rneed l kCatch (q s).2)).2)).2 := ⟨rfl, rfl⟩
theorem rtry_e1 {q : RdS → Gl × RdS} {l : List Tok} {s : RdS} (hq : Sticky q) (h : (q s).2.err ≠ 0) : (rtry q l s).2.err = (q s).2.err := by
 simp only [rtry, rneed_err h, rword_err h]; exact hq _ h
theorem rtry_e2 {q : RdS → Gl × RdS} {l : List Tok} {s : RdS} (hq : Sticky q) (h : (rneed l kCatch (q s).2).err ≠ 0) : (rtry q l s).2.err = (rneed l kCatch (q s).2).err := by
 simp only [rtry, rword_err h, rneed_err h]; exact hq _ h
theorem rtry_e3 {q : RdS → Gl × RdS} {l : List Tok} {s : RdS} (hq : Sticky q) (h : (rword l 2 (rneed l kCatch (q s).2)).2.err ≠ 0) : (rtry q l s).2.err = (rword l 2 (rneed l kCatch (q s).2)).2.err := by
 simp only [rtry, rneed_err h]; exact hq _ h
theorem rtry_e4 {q : RdS → Gl × RdS} {l : List Tok} {s : RdS} (hq : Sticky q) (h : (rneed l kThen (rword l 2 (rneed l kCatch (q s).2)).2).err ≠ 0) : (rtry q l s).2.err = (rneed l kThen (rword l 2 (rneed l kCatch (q s).2)).2).err := by
 simp only [rtry]; exact hq _ h
end Go.Aug
