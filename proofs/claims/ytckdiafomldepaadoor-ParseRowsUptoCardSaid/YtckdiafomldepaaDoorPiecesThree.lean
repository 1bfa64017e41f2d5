/- Texts piece by piece: what the lexer's and the reader's plain forms make of them; conditions stand in each theorem. -/
import Derived.Test.YtckdiafomldepaaDoorPiecesTwo
import Derived.Test.YtckdiafomldepaaDoorGrammarThree
set_option linter.all false
set_option linter.unusedVariables false
set_option linter.unusedSimpArgs false
set_option linter.unusedSectionVars false

/- Plain: the reader over rows of tokens that stand alike. -/
namespace Go.Aug
set_option maxRecDepth 100000
set_option linter.unusedSimpArgs false
/-- The same tokens, d apart, up to the place m; where the first row ends, a closing bracket may stand. -/
def Alike (l l' : List Tok) (d m : Nat) : Prop := ∀ p, p ≤ m → l'[p + d]? = l[p]? ∨ (l[p]? = none ∧ l'[p + d]? = some tokClose)
def sh (d : Nat) (s : RdS) : RdS := ⟨s.pos + d, s.err⟩
theorem ris_pk {l : List Tok} {t : ByteArray} {s : RdS} (he : s.err = 0) : ris l t s = match l[s.pos]? with
 | some k => decide (k.text = t) && (decide (k.kind = 1) || decide (k.kind = 4))
 | none => false := by
 cases hk : l[s.pos]? with
 | none =>
  have hl := List.getElem?_eq_none_iff.1 hk
  simp [ris, rend_eq he, hl]
 | some k =>
  have hl := (List.getElem?_eq_some_iff.1 hk).1
  have : rend l s = false := by rw [rend_eq he]; simp; omega
  simp [ris, this, hk]
section
variable {l l' : List Tok} {d m : Nat} {P : Prop} {s : RdS} {t : ByteArray}
theorem Alike.at_ (h : Alike l l' d m) {p : Nat} {k : Tok} (hp : p ≤ m) (hk : l[p]? = some k) : l'[p + d]? = some k := by
 rcases h p hp with e | ⟨e, _⟩
 ·rw [e, hk]
 ·rw [e] at hk; cases hk
theorem got_of {b : Bool} (e : ris l t s = b) (e' : ris l' t (sh d s) = b) : rgot l' t (sh d s) = ((rgot l t s).1, sh d (rgot l t s).2) := by
 unfold rgot
 rw [e, e']
 cases b with
 | true => simp only [if_true, sh]; congr 2; omega
 | false => simp only [Bool.false_eq_true, if_false]
theorem Alike.got (h : Alike l l' d m) (he : s.err = 0) (hp : s.pos ≤ m) (ht : t ≠ ⟨#[41]⟩) : rgot l' t (sh d s) = ((rgot l t s).1, sh d (rgot l t s).2) := by
 refine got_of rfl ?_
 rw [ris_pk he, ris_pk (s := sh d s) he]
 rcases h s.pos hp with e | ⟨e1, e2⟩
 ·rw [show (sh d s).pos = s.pos + d from rfl, e]
 ·rw [show (sh d s).pos = s.pos + d from rfl, e1, e2]
  have : tokClose.text ≠ t := fun hh => ht hh.symm
  simp [this]
theorem Alike.gotK (h : Alike l l' d m) (he : s.err = 0) (hp : s.pos ≤ m) {k : Tok} (hk : l[s.pos]? = some k) : rgot l' t (sh d s) = ((rgot l t s).1, sh d (rgot l t s).2) := by
 refine got_of rfl ?_
 rw [ris_pk he, ris_pk (s := sh d s) he, show (sh d s).pos = s.pos + d from rfl, h.at_ hp hk, hk]
theorem got_tok (h : (rgot l t s).1 = true) : s.err = 0 ∧ s.pos < l.length ∧ ∃ k, l[s.pos]? = some k := by
 obtain ⟨h1, _, h3⟩ := rgot_true h
 exact ⟨h1, h3, _, List.getElem?_eq_getElem h3⟩
theorem need_got (h : (rneed l t s).err = 0) : s.err = 0 ∧ (rgot l t s).1 = true ∧ rneed l t s = (rgot l t s).2 := by
 have h0 := (rneed_ok h).1
 unfold rneed at h ⊢
 rw [if_pos h0] at h ⊢
 by_cases hg : (rgot l t s).1 = true
 ·rw [if_pos hg]; exact ⟨h0, hg, rfl⟩
 ·rw [if_neg hg] at h; exact absurd h (rfail_err (by decide) _)
theorem Alike.need (h : Alike l l' d m) (h0 : (rneed l t s).err = 0) (hp : s.pos ≤ m) : rneed l' t (sh d s) = sh d (rneed l t s) := by
 obtain ⟨he, hg, e⟩ := need_got h0
 obtain ⟨_, _, k, hk⟩ := got_tok hg
 have := h.gotK (t := t) he hp hk
 rw [hg] at this
 rw [rneed, if_pos (show (sh d s).err = 0 from he), this, if_pos rfl, e]
theorem Alike.word (h : Alike l l' d m) {k : Int} (h0 : (rword l k s).2.err = 0) (hp : s.pos ≤ m) : rword l' k (sh d s) = ((rword l k s).1, sh d (rword l k s).2) := by
 obtain ⟨he, _, hr⟩ := rword_ok h0
 obtain ⟨_, _, x, hx⟩ := rend_tok hr
 have hx' := h.at_ hp hx
 have hr' : rend l' (sh d s) = false := by
  rw [rend_eq (s := sh d s) he]
  have := (List.getElem?_eq_some_iff.1 hx').1
  exact decide_eq_false (by show ¬ l'.length ≤ s.pos + d; omega)
 unfold rword at h0 ⊢
 rw [hr, hr']
 rw [hr] at h0
 simp only [Bool.false_eq_true, if_false, hx, show (sh d s).pos = s.pos + d from rfl, hx'] at h0 ⊢
 split
 ·rename_i hc
  rw [if_pos hc] at h0
  exact absurd h0 (rfail_err (by decide) _)
 ·simp only [sh]; congr 2; omega
theorem moreFin_8 {n : Nat} (hn : n ≠ 8) : rmoreFin l n s = (decide (s.err = 0), s) := by
 simp only [rmoreFin, if_neg (show ¬ (n = 8 ∧ rend l s = false) from fun h => hn h.1)]
theorem Alike.more (h : Alike l l' d m) {n : Nat} (hn : n ≠ 8 ∨ (rmore l n s).1 = false) (he : s.err = 0) (h0 : (rmore l n s).2.err = 0) (hp : (rmore l n s).2.pos ≤ m) : rmore l' n (sh d s) = ((rmore l n s).1, sh d (rmore l n s).2) := by
 have hps : s.pos ≤ m := Nat.le_trans (rmore_ge l n s) hp
 by_cases h1 : n = 0
 ·subst h1
  have e := h.got (t := ⟨#[40]⟩) he hps (by decide)
  simp only [rmore, if_true, e]
  split
  ·rw [moreFin_8 (by decide), moreFin_8 (by decide)]; rfl
  ·rfl
 ·unfold rmore at h0 hp hn ⊢
  rw [if_neg h1] at h0 hp hn ⊢
  rw [if_neg h1]
  cases hg : (rgot l ⟨#[41]⟩ s).1 with
  | true =>
   obtain ⟨_, _, k, hk⟩ := got_tok hg
   have e := h.gotK (t := ⟨#[41]⟩) he hps hk
   rw [hg] at e
   rw [e, if_pos (.inl rfl), if_pos (.inl rfl)]
  | false =>
   have e2 := rgot_false hg
   rw [hg, e2, if_neg (by simp [he])] at h0 hp hn
   rw [if_neg (show ¬ (false = true ∨ (rgot l ⟨#[41]⟩ s).2.err ≠ 0) by simp [e2, he]), e2]
   have hn8 : n ≠ 8 := by
    rcases hn with hn | hn
    ·exact hn
    ·simp only [rmoreFin, decide_eq_false_iff_not] at hn
     exact absurd h0 hn
   rw [moreFin_8 hn8] at h0 hp
   obtain ⟨_, hg2, _⟩ := need_got h0
   obtain ⟨_, _, k, hk⟩ := got_tok hg2
   have e := h.gotK (t := ⟨#[41]⟩) he hps hk
   rw [hg, e2] at e
   rw [e, if_neg (show ¬ (false = true ∨ (sh d s).err ≠ 0) by simp [sh, he]), h.need h0 hps, moreFin_8 hn8, moreFin_8 hn8]
   rfl
/-- Where the first one reads well, the second one reads the same, or tells that it is too deep. -/
def Sim {α : Type} (P : Prop) (d m : Nat) (q q' : RdS → α × RdS) : Prop := ∀ s : RdS, s.err = 0 → (q s).2.err = 0 → (q s).2.pos ≤ m → (P ∧ (q' (sh d s)).2.err = 3) ∨ q' (sh d s) = ((q s).1, sh d (q s).2)
theorem Sim.eq {α : Type} {q q' : RdS → α × RdS} (h : Sim False d m q q') (he : s.err = 0) (h0 : (q s).2.err = 0) (hp : (q s).2.pos ≤ m) : q' (sh d s) = ((q s).1, sh d (q s).2) := by
 rcases h s he h0 hp with ⟨h, _⟩ | h
 ·exact h.elim
 ·exact h
theorem err_3 {e : Int} (h : e = 3) : e ≠ 0 := by omega
theorem rargs_sim {α : Type} {q q' : RdS → α × RdS} (hA : Alike l l' d m) (hq : Sim P d m q q') (hs : Steps l q) (hend : ∀ s, rend l s = true → (q s).2.err ≠ 0) : ∀ (k : Nat) (xs : List α), Sim P d m (rargs q l k xs) (rargs q' l' k xs)
 | 0, xs, s, _, _, _ => .inr rfl
 | k + 1, xs, s, he, h0, hp => by
  have he' : (sh d s).err = 0 := he
  simp only [rargs, if_pos he] at h0 hp
  simp only [rargs, if_pos he, if_pos he']
  cases hm : (rmore l xs.length s).1 with
  | false =>
   simp only [hm, Bool.false_eq_true, if_false] at h0 hp
   have e := hA.more (.inr hm) he h0 hp
   rw [hm] at e
   right
   simp only [e, Bool.false_eq_true, if_false]
  | true =>
   simp only [hm, if_true] at h0 hp
   obtain ⟨r0, _, r8⟩ := rmore_true hm
   by_cases hqe : (q (rmore l xs.length s).2).2.err = 0
   ·have hn8 : xs.length ≠ 8 := fun h => hend _ (r8 h) hqe
    have hp1 := Nat.le_trans (rargs_ge hs.ge k _ _) hp
    have e := hA.more (.inl hn8) he r0 (Nat.le_trans (hs.ge _) hp1)
    rw [hm] at e
    simp only [e, if_true]
    rcases hq _ r0 hqe hp1 with ⟨hP, h3⟩ | e2
    ·left
     refine ⟨hP, ?_⟩
     rw [rargs_stop (err_3 h3)]
     exact h3
    ·rw [e2]
     exact rargs_sim hA hq hs hend k _ _ hqe h0 hp
   ·rw [rargs_stop hqe] at h0
    exact absurd h0 hqe
theorem rterm_nerr {f n : Nat} (h : (rnest l n s).err ≠ 0) : (rterm (f + 1) l n s).2.err = (rnest l n s).err := by
 have hr : rend l (rnest l n s) = true := by simp [rend, h]
 simp only [rterm, hr, if_true, rword_err h, rargs_stop h]
theorem rtype_nerr {f n : Nat} (h : (rnest l n s).err ≠ 0) : (rtype (f + 1) l n s).2.err = (rnest l n s).err := by
 have hr : rend l (rnest l n s) = true := by simp [rend, h]
 simp only [rtype, varTok, hr, if_true, rgot_errs h, rword_err h, rargs_stop h]
 simp
theorem nest_big {n : Nat} (he : s.err = 0) (hn : 64 < n) (hl : s.pos < l.length) : (rnest l n s).err = 3 := by rw [rnest_is he, if_pos ⟨hn, hl⟩]
theorem rterm_sim (hA : Alike l l' d m) : ∀ (f f' n n' : Nat), n ≤ 65 → n' ≤ 65 → 67 ≤ f + n → 67 ≤ f' + n' → n ≤ n' → (n' ≠ n → P) → Sim P d m (rterm f l n) (rterm f' l' n')
 | 0, f', n, n', h1, h2, h3, h4, h5, hP => by omega
 | f + 1, 0, n, n', h1, h2, h3, h4, h5, hP => by omega
 | f + 1, g + 1, n, n', h1, h2, h3, h4, h5, hP => by
  intro s he h0 hp
  have hps : s.pos ≤ m := Nat.le_trans (rterm_ge ..) hp
  cases hr : rend l s with
  | true => exact absurd h0 (rterm_end (by omega) hr)
  | false =>
   obtain ⟨_, hl, k, hk⟩ := rend_tok hr
   have hk' := hA.at_ hps hk
   have hl' := (List.getElem?_eq_some_iff.1 hk').1
   have hn : n ≤ 64 := by
    apply Classical.byContradiction; intro hn
    have e := nest_big he (show 64 < n by omega) hl
    rw [rterm_nerr (err_3 e), e] at h0; cases h0
   by_cases hn' : n' ≤ 64
   ·have e0 := rterm_is (l := l) (f := f) (n := n) he (by rw [rnest_no hn]; exact he)
    have e1 := rterm_is (f := g) (n := n') (s := sh d s) (l := l') he (by rw [rnest_no (l := l') hn']; exact he)
    rw [show rpeek l' (sh d s).pos = rpeek l s.pos by rw [rpeek_some hk]; exact rpeek_some hk'] at e1
    rw [e0] at h0 hp ⊢
    rw [e1]
    by_cases c2 : (rpeek l s.pos).kind = 2
    ·rw [if_pos c2, if_pos c2]; right; simp only [sh]; congr 2; omega
    ·rw [if_neg c2] at h0 hp
     rw [if_neg c2, if_neg c2]
     by_cases c3 : (rpeek l s.pos).kind = 3
     ·rw [if_pos c3, if_pos c3]; right; simp only [sh]; congr 2; omega
     ·rw [if_neg c3] at h0 hp
      rw [if_neg c3, if_neg c3]
      by_cases hw : (rword l 1 s).2.err = 0
      ·rw [hA.word hw hps]
       rcases rargs_sim hA (rterm_sim hA f g (n + 1) (n' + 1) (by omega) (by omega) (by omega) (by omega) (by omega) (fun h => hP (by omega))) (rterm_steps l f (n + 1)) (fun s h => rterm_end (by omega) h) 10 [] _ hw h0 hp with h | e
       ·exact .inl h
       ·right; rw [e]
      ·rw [rargs_stop hw] at h0
       exact absurd h0 hw
   ·left
    have e := nest_big (s := sh d s) he (show 64 < n' by omega) hl'
    exact ⟨hP (by omega), by rw [rterm_nerr (err_3 e), e]⟩
theorem rtype_sim (hA : Alike l l' d m) : ∀ (f f' n n' : Nat), n ≤ 65 → n' ≤ 65 → 67 ≤ f + n → 67 ≤ f' + n' → n ≤ n' → (n' ≠ n → P) → Sim P d m (rtype f l n) (rtype f' l' n')
 | 0, f', n, n', h1, h2, h3, h4, h5, hP => by omega
 | f + 1, 0, n, n', h1, h2, h3, h4, h5, hP => by omega
 | f + 1, g + 1, n, n', h1, h2, h3, h4, h5, hP => by
  intro s he h0 hp
  have hps : s.pos ≤ m := Nat.le_trans (rtype_ge ..) hp
  cases hr : rend l s with
  | true => exact absurd h0 (rtype_end (by omega) hr)
  | false =>
   obtain ⟨_, hl, k, hk⟩ := rend_tok hr
   have hk' := hA.at_ hps hk
   have hl' := (List.getElem?_eq_some_iff.1 hk').1
   have hn : n ≤ 64 := by
    apply Classical.byContradiction; intro hn
    have e := nest_big he (show 64 < n by omega) hl
    rw [rtype_nerr (err_3 e), e] at h0; cases h0
   by_cases hn' : n' ≤ 64
   ·have e0 := rtype_is (l := l) (f := f) (n := n) he (by rw [rnest_no hn]; exact he)
    have e1 := rtype_is (f := g) (n := n') (s := sh d s) (l := l') he (by rw [rnest_no (l := l') hn']; exact he)
    rw [show rpeek l' (sh d s).pos = rpeek l s.pos by rw [rpeek_some hk]; exact rpeek_some hk'] at e1
    rw [e0] at h0 hp ⊢
    rw [e1]
    by_cases c2 : (rpeek l s.pos).kind = 2
    ·rw [if_pos c2, if_pos c2]; right; simp only [sh]; congr 2; omega
    ·rw [if_neg c2] at h0 hp
     rw [if_neg c2, if_neg c2, hA.gotK he hps hk]
     by_cases c3 : (rgot l kInt s).1 = true
     ·rw [if_pos c3, if_pos c3]; right; rfl
     ·rw [if_neg c3] at h0 hp
      rw [if_neg c3, if_neg c3]
      by_cases hw : (rword l 1 s).2.err = 0
      ·rw [hA.word hw hps]
       rcases rargs_sim hA (rtype_sim hA f g (n + 1) (n' + 1) (by omega) (by omega) (by omega) (by omega) (by omega) (fun h => hP (by omega))) (rtype_steps l f (n + 1)) (fun s h => rtype_end (by omega) h) 10 [] _ hw h0 hp with h | e
       ·exact .inl h
       ·right; rw [e]
      ·rw [rargs_stop hw] at h0
       exact absurd h0 hw
   ·left
    have e := nest_big (s := sh d s) he (show 64 < n' by omega) hl'
    exact ⟨hP (by omega), by rw [rtype_nerr (err_3 e), e]⟩
theorem rjoin_no {q : RdS → Gl × RdS} {mk : ByteArray} {gs : List Gl} (h : (rgot l mk s).1 = false) (k : Nat) : rjoin q mk l k gs s = (gs, s) := by
 cases k with
 | zero => rfl
 | succ k => simp only [rjoin, h, Bool.false_eq_true, if_false]
theorem rjoin_sim {q q' : RdS → Gl × RdS} {mk : ByteArray} (hA : Alike l l' d m) (hq : Sim P d m q q') (hs : Steps l q) (hmk : mk ≠ ⟨#[41]⟩) : ∀ (k k' : Nat) (gs : List Gl) (s : RdS), s.err = 0 → l.length ≤ k + s.pos → l'.length ≤ k' + (s.pos + d) → (rjoin q mk l k gs s).2.err = 0 → (rjoin q mk l k gs s).2.pos ≤ m →
  (P ∧ (rjoin q' mk l' k' gs (sh d s)).2.err = 3) ∨ rjoin q' mk l' k' gs (sh d s) = ((rjoin q mk l k gs s).1, sh d (rjoin q mk l k gs s).2)
 | k, k', gs, s, he, hk, hk', h0, hp => by
  have hps : s.pos ≤ m := Nat.le_trans ((rjoin_steps hs k gs).ge s) hp
  have e := hA.got he hps hmk
  cases hg : (rgot l mk s).1 with
  | false =>
   rw [hg] at e
   right
   rw [rjoin_no hg, rjoin_no (by rw [e])]
  | true =>
   obtain ⟨_, hl, x, hx⟩ := got_tok hg
   have hl' := (List.getElem?_eq_some_iff.1 (hA.at_ hps hx)).1
   obtain ⟨_, g2, _⟩ := rgot_true hg
   have g3 : (rgot l mk s).2.err = 0 := by rw [rgot_err]; exact he
   rw [hg] at e
   match k, k', hk, hk' with
   | 0, _, hk, _ => omega
   | _ + 1, 0, _, hk' => omega
   | k + 1, k' + 1, hk, hk' =>
    simp only [rjoin, hg, if_true] at h0 hp
    simp only [rjoin, hg, e, if_true]
    by_cases hqe : (q (rgot l mk s).2).2.err = 0
    ·have hp1 := Nat.le_trans ((rjoin_steps hs k _).ge _) hp
     have hge := hs.ge (rgot l mk s).2
     rcases hq _ g3 hqe hp1 with ⟨hP, h3⟩ | e2
     ·left
      refine ⟨hP, ?_⟩
      rw [rjoin_err (err_3 h3)]
      exact h3
     ·rw [e2]
      exact rjoin_sim hA hq hs hmk k k' _ _ hqe (by omega) (by omega) h0 hp
    ·rw [rjoin_err hqe] at h0
     exact absurd h0 hqe
theorem rjoined_sim {q q' : RdS → Gl × RdS} {mk : ByteArray} {kind : Int} (hA : Alike l l' d m) (hq : Sim P d m q q') (hs : Steps l q) (hmk : mk ≠ ⟨#[41]⟩) : Sim P d m (rjoined kind mk q l) (rjoined kind mk q' l') := fun s he h0 hp => by
 simp only [rjoined] at h0 hp ⊢
 by_cases hqe : (q s).2.err = 0
 ·rcases hq _ he hqe (Nat.le_trans ((rjoin_steps hs _ _).ge _) hp) with ⟨hP, h3⟩ | e
  ·left
   refine ⟨hP, ?_⟩
   rw [rjoin_err (err_3 h3)]
   exact h3
  ·rw [e]
   rcases rjoin_sim hA hq hs hmk l.length l'.length [(q s).1] _ hqe (by omega) (by omega) h0 hp with h | h
   ·exact .inl h
   ·right; rw [h]
 ·rw [rjoin_err hqe] at h0
  exact absurd h0 hqe
theorem rgoalW_sim {q q' : RdS → Gl × RdS} (hA : Alike l l' d m) (hq : Sim P d m q q') (hs : Steps l q) (hs' : Steps l' q') : Sim P d m (rgoalW q l) (rgoalW q' l') := fun s he h0 hp => by
 rw [rgoal_join hs he] at h0 hp ⊢
 rw [rgoal_join hs' (s := sh d s) he]
 exact rjoined_sim hA (rjoined_sim hA hq hs (by decide)) (rjoined_steps hs) (by decide) s he h0 hp
theorem rtry_sim {q q' : RdS → Gl × RdS} (hA : Alike l l' d m) (hq : Sim P d m q q') (hs : Steps l q) (hq1 : Sticky q) (hq2 : Sticky q') : Sim P d m (rtry q l) (rtry q' l') := fun s he h0 hp => by
 obtain ⟨t1, t2⟩ := rtry_is (l := l) (s := s) hq1
 rw [t2] at h0 hp
 have n4 : (rneed l kThen (rword l 2 (rneed l kCatch (q s).2)).2).err = 0 := by
  apply Classical.byContradiction; intro hn
  rw [hq1 _ hn] at h0; exact hn h0
 have n3 := (rneed_ok n4).1
 have n2 := (rword_ok n3).1
 have n1 := (rneed_ok n2).1
 have p4 := Nat.le_trans (hs.ge _) hp
 have p3 := Nat.le_trans (rneed_ge l kThen _) p4
 have p2 := Nat.le_trans (rword_ge l 2 _) p3
 have p1 := Nat.le_trans (rneed_ge l kCatch _) p2
 rcases hq _ he n1 p1 with ⟨hP, h3⟩ | e
 ·exact .inl ⟨hP, by rw [rtry_e1 hq2 (err_3 h3), h3]⟩
 ·have e2 : rneed l' kCatch (q' (sh d s)).2 = sh d (rneed l kCatch (q s).2) := by rw [e]; exact hA.need n2 p1
  have e3 : rword l' 2 (rneed l' kCatch (q' (sh d s)).2) = ((rword l 2 (rneed l kCatch (q s).2)).1, sh d (rword l 2 (rneed l kCatch (q s).2)).2) := by rw [e2]; exact hA.word n3 p2
  have e4 : rneed l' kThen (rword l' 2 (rneed l' kCatch (q' (sh d s)).2)).2 = sh d (rneed l kThen (rword l 2 (rneed l kCatch (q s).2)).2) := by rw [e3]; exact hA.need n4 p3
  obtain ⟨u1, u2⟩ := rtry_is (l := l') (s := sh d s) hq2
  rcases hq _ n4 h0 hp with ⟨hP, h3⟩ | e5
  ·left
   refine ⟨hP, ?_⟩
   rw [u2, e4]; exact h3
  ·right
   refine Prod.ext ?_ ?_
   ·rw [u1, e4, e5, e3, e, t1]
   ·rw [u2, e4, e5, t2]
theorem rcall_sim (hA : Alike l l' d m) {f g n n' : Nat} (ht : Sim P d m (rterm f l (n + 1)) (rterm g l' (n' + 1))) : Sim P d m (rcall f l n) (rcall g l' n') := fun s he h0 hp => by
 have ha : (rterm f l (n + 1) s).2.err = 0 := by
  apply Classical.byContradiction; intro hn
  simp only [rcall, rgot_errs hn, Bool.false_eq_true, if_false] at h0
  split at h0
  ·exact hn h0
  ·rw [rfail, if_neg hn] at h0; exact hn h0
 have hpa : (rterm f l (n + 1) s).2.pos ≤ m := by
  refine Nat.le_trans ?_ hp
  simp only [rcall]
  split
  ·exact Nat.le_trans (rgot_ge ..) (rterm_ge ..)
  ·simp only; split
   ·exact Nat.le_refl _
   ·rw [rfail_pos]; exact Nat.le_refl _
 simp only [rcall] at h0 hp ⊢
 rcases ht _ he ha hpa with ⟨hP, h3⟩ | e
 ·left
  refine ⟨hP, ?_⟩
  simp only [rgot_errs (err_3 h3), Bool.false_eq_true, if_false]
  split
  ·exact h3
  ·rw [rfail, if_neg (err_3 h3)]; exact h3
 ·have e2 : rgot l' kEq (rterm g l' (n' + 1) (sh d s)).2 = ((rgot l kEq (rterm f l (n + 1) s).2).1, sh d (rgot l kEq (rterm f l (n + 1) s).2).2) := by rw [e]; exact hA.got ha hpa (by decide)
  rw [e2, e]
  by_cases hg : (rgot l kEq (rterm f l (n + 1) s).2).1 = true
  ·rw [if_pos hg] at h0 hp
   rw [if_pos hg, if_pos hg]
   rcases ht _ (by rw [rgot_err]; exact ha) h0 hp with ⟨hP, h3⟩ | e5
   ·exact .inl ⟨hP, h3⟩
   ·right; rw [e5]
  ·rw [if_neg hg] at h0 hp
   rw [if_neg hg, if_neg hg]
   right
   by_cases hk : (rterm f l (n + 1) s).1.kind = 3
   ·rw [if_pos hk, if_pos hk]
   ·rw [if_neg hk] at h0
    exact absurd h0 (rfail_err (by decide) _)
theorem rcall_end {f n : Nat} (hf : 0 < f) (h : rend l s = true) : (rcall f l n s).2.err ≠ 0 := by
 have ht := rterm_end (n := n + 1) hf h
 simp only [rcall, rgot_errs ht, Bool.false_eq_true, if_false]
 split
 ·exact ht
 ·rw [rfail, if_neg ht]; exact ht
theorem rprim_end {f n : Nat} (hf : 0 < f) (h : rend l s = true) : (rprim (f + 1) l n s).2.err ≠ 0 := by
 have h1 : rnest l n s = s := by unfold rnest; rw [if_neg (by simp [h])]
 simp only [rprim, h1, rgot_end h, Bool.false_eq_true, if_false]
 exact rcall_end hf h
theorem rprim_sim (hA : Alike l l' d m) : ∀ (f f' n n' : Nat), n ≤ 65 → n' ≤ 65 → 67 ≤ f + n → 67 ≤ f' + n' → n ≤ n' → (n' ≠ n → P) → Sim P d m (rprim f l n) (rprim f' l' n')
 | 0, f', n, n', h1, h2, h3, h4, h5, hP => by omega
 | f + 1, 0, n, n', h1, h2, h3, h4, h5, hP => by omega
 | f + 1, g + 1, n, n', h1, h2, h3, h4, h5, hP => by
  intro s he h0 hp
  have hps : s.pos ≤ m := Nat.le_trans ((rprim_steps l (f + 1) n).ge s) hp
  cases hr : rend l s with
  | true => exact absurd h0 (rprim_end (by omega) hr)
  | false =>
   obtain ⟨_, hl, k, hk⟩ := rend_tok hr
   have hk' := hA.at_ hps hk
   have hl' := (List.getElem?_eq_some_iff.1 hk').1
   have hn : n ≤ 64 := by
    apply Classical.byContradiction; intro hn
    have e := nest_big he (show 64 < n by omega) hl
    rw [rprim_nerr (err_3 e), e] at h0; cases h0
   by_cases hn' : n' ≤ 64
   ·have e0 := rnest_no (l := l) (s := s) hn
    have e1 := rnest_no (l := l') (s := sh d s) hn'
    have gt := fun t => hA.gotK (t := t) he hps hk
    have ge := fun t => show (rgot l t s).2.err = 0 by rw [rgot_err]; exact he
    have ht := rterm_sim (P := P) hA f g (n + 1) (n' + 1) (by omega) (by omega) (by omega) (by omega) (by omega) (fun h => hP (by omega))
    have hq := rprim_sim hA f g (n + 1) (n' + 1) (by omega) (by omega) (by omega) (by omega) (by omega) (fun h => hP (by omega))
    simp only [rprim, e0] at h0 hp
    simp only [rprim, e0, e1, gt]
    by_cases c1 : (rgot l kTrue s).1 = true
    ·rw [if_pos c1, if_pos c1]; exact .inr rfl
    rw [if_neg c1] at h0 hp; rw [if_neg c1, if_neg c1]
    by_cases c2 : (rgot l kFail s).1 = true
    ·rw [if_pos c2, if_pos c2]; exact .inr rfl
    rw [if_neg c2] at h0 hp; rw [if_neg c2, if_neg c2]
    by_cases c3 : (rgot l kNot s).1 = true
    ·rw [if_pos c3] at h0 hp; rw [if_pos c3, if_pos c3]
     rcases hq _ (ge _) h0 hp with h | e
     ·exact .inl h
     ·right; rw [e]
    rw [if_neg c3] at h0 hp; rw [if_neg c3, if_neg c3]
    by_cases c4 : (rgot l kThrow s).1 = true
    ·rw [if_pos c4] at h0 hp; rw [if_pos c4, if_pos c4]
     rcases ht _ (ge _) h0 hp with h | e
     ·exact .inl h
     ·right; rw [e]
    rw [if_neg c4] at h0 hp; rw [if_neg c4, if_neg c4]
    by_cases c5 : (rgot l kTry s).1 = true
    ·rw [if_pos c5] at h0 hp; rw [if_pos c5, if_pos c5]
     exact rtry_sim hA hq (rprim_steps l f (n + 1)) (rprim_sticky l f (n + 1)) (rprim_sticky l' g (n' + 1)) _ (ge _) h0 hp
    rw [if_neg c5] at h0 hp; rw [if_neg c5, if_neg c5]
    by_cases c6 : (rgot l kOpen s).1 = true
    ·rw [if_pos c6] at h0 hp; rw [if_pos c6, if_pos c6]
     have n1 := (rneed_ok h0).1
     have p1 := Nat.le_trans (rneed_ge l kClose _) hp
     rcases rgoalW_sim hA hq (rprim_steps l f (n + 1)) (rprim_steps l' g (n' + 1)) _ (ge _) n1 p1 with ⟨hP, h3⟩ | e
     ·left
      refine ⟨hP, ?_⟩
      rw [rneed_err (err_3 h3)]; exact h3
     ·right
      rw [e, hA.need h0 p1]
    rw [if_neg c6] at h0 hp; rw [if_neg c6, if_neg c6]
    exact rcall_sim hA ht s he h0 hp
   ·left
    have e := nest_big (s := sh d s) he (show 64 < n' by omega) hl'
    exact ⟨hP (by omega), by rw [rprim_nerr (err_3 e), e]⟩
theorem rgoal_sim (hA : Alike l l' d m) {f f' n n' : Nat} (h1 : n ≤ 65) (h2 : n' ≤ 65) (h3 : 67 ≤ f + n) (h4 : 67 ≤ f' + n') (h5 : n ≤ n') (hP : n' ≠ n → P) : Sim P d m (rgoal f l n) (rgoal f' l' n') :=
 rgoalW_sim hA (rprim_sim hA f f' n n' h1 h2 h3 h4 h5 hP) (rprim_steps l f n) (rprim_steps l' f' n')
/-- Items: here nothing nests deeper. -/
theorem rctor_sim (hA : Alike l l' d m) : Sim False d m (rctor l) (rctor l') := fun s he h0 hp => by
 simp only [rctor] at h0 hp ⊢
 by_cases hw : (rword l 1 s).2.err = 0
 ·have hs := rtype_steps l 66 1
  have hpw := Nat.le_trans (rargs_ge hs.ge 10 [] _) hp
  have e := rargs_sim hA (rtype_sim (P := False) hA 66 66 1 1 (by decide) (by decide) (by decide) (by decide) (by decide) (fun h => h rfl)) hs (fun s h => rtype_end (by decide) h) 10 []
  right
  rw [hA.word hw (Nat.le_trans (rword_ge ..) hpw)]
  simp only [e.eq hw h0 hp]
 ·rw [rargs_stop hw] at h0
  exact absurd h0 hw
theorem rbars_e {k : Nat} {cs : List Ct} (h : s.err ≠ 0) : rbars l k cs s = (cs, s) := by
 cases k with
 | zero => rfl
 | succ k => simp only [rbars, rgot_errs h, Bool.false_eq_true, if_false]
theorem rbars_no {cs : List Ct} (h : (rgot l kBar s).1 = false) (k : Nat) : rbars l k cs s = (cs, s) := by
 cases k with
 | zero => rfl
 | succ k => simp only [rbars, h, Bool.false_eq_true, if_false]
theorem rbars_sim (hA : Alike l l' d m) : ∀ (k k' : Nat) (cs : List Ct) (s : RdS), s.err = 0 → l.length ≤ k + s.pos → l'.length ≤ k' + (s.pos + d) → (rbars l k cs s).2.err = 0 → (rbars l k cs s).2.pos ≤ m → rbars l' k' cs (sh d s) = ((rbars l k cs s).1, sh d (rbars l k cs s).2)
 | k, k', cs, s, he, hk, hk', h0, hp => by
  have hps : s.pos ≤ m := Nat.le_trans ((rbars_steps l k cs).ge s) hp
  have e := hA.got (t := kBar) he hps (by decide)
  cases hg : (rgot l kBar s).1 with
  | false =>
   rw [hg] at e
   rw [rbars_no hg, rbars_no (by rw [e])]
  | true =>
   obtain ⟨_, hl, x, hx⟩ := got_tok hg
   have hl' := (List.getElem?_eq_some_iff.1 (hA.at_ hps hx)).1
   obtain ⟨_, g2, _⟩ := rgot_true hg
   have g3 : (rgot l kBar s).2.err = 0 := by rw [rgot_err]; exact he
   rw [hg] at e
   match k, k', hk, hk' with
   | 0, _, hk, _ => omega
   | _ + 1, 0, _, hk' => omega
   | k + 1, k' + 1, hk, hk' =>
    simp only [rbars, hg, if_true] at h0 hp
    simp only [rbars, hg, e, if_true]
    by_cases hqe : (rctor l (rgot l kBar s).2).2.err = 0
    ·have hge := (rctor_steps l).ge (rgot l kBar s).2
     rw [(rctor_sim hA).eq g3 hqe (Nat.le_trans ((rbars_steps l k _).ge _) hp)]
     exact rbars_sim hA k k' _ _ hqe (by omega) (by omega) h0 hp
    ·rw [rbars_e hqe] at h0
     exact absurd h0 hqe
theorem rwayIn_sim (hA : Alike l l' d m) : Sim False d m (rwayIn l) (rwayIn l') := fun s he h0 hp => by
 have hps : s.pos ≤ m := Nat.le_trans ((rwayIn_steps l).ge s) hp
 simp only [rwayIn, hA.got (t := kIn) he hps (by decide)] at h0 hp ⊢
 right
 by_cases hg : (rgot l kIn s).1 = true
 ·rw [if_pos hg, if_pos hg]
 ·rw [if_neg hg] at h0 hp
  rw [if_neg hg, if_neg hg]
  rw [hA.need h0 hps]
theorem rdet_sim (hA : Alike l l' d m) : Sim False d m (rdet l) (rdet l') := fun s he h0 hp => by
 have hps : s.pos ≤ m := Nat.le_trans ((rdet_steps l).ge s) hp
 right
 simp only [rdet, hA.got (t := kDet) he hps (by decide), hA.got (t := kSemi2) he hps (by decide), hA.got (t := kMulti) he hps (by decide), hA.got (t := kNon) he hps (by decide)] at h0 hp ⊢
 repeat' split
 all_goals first | rfl | skip
 rename_i c1 c2 c3 c4
 rw [if_neg c1, if_neg c2, if_neg c3, if_neg c4] at h0
 exact absurd h0 (rfail_err (by decide) _)
theorem ritType_sim (hA : Alike l l' d m) : Sim False d m (ritType l) (ritType l') := fun s he h0 hp => by
 right
 simp only [ritType] at h0 hp ⊢
 have hs := rword_steps l 2
 have n3 : (rctor l (rneed l kEq (rargs (rword l 2) l 10 [] (rword l 1 s).2).2)).2.err = 0 := by
  apply Classical.byContradiction; intro hn
  rw [rbars_e hn] at h0; exact hn h0
 have n2 : (rneed l kEq (rargs (rword l 2) l 10 [] (rword l 1 s).2).2).err = 0 := by
  apply Classical.byContradiction; intro hn
  simp only [rctor, rword_err hn, rargs_stop hn] at n3; exact hn n3
 have n1 := (rneed_ok n2).1
 have n0 : (rword l 1 s).2.err = 0 := by
  apply Classical.byContradiction; intro hn
  rw [rargs_stop hn] at n1; exact hn n1
 have p3 := Nat.le_trans ((rbars_steps l _ _).ge _) hp
 have p2 := Nat.le_trans ((rctor_steps l).ge _) p3
 have p1 := Nat.le_trans (rneed_ge l kEq _) p2
 have p0 := Nat.le_trans (rargs_ge hs.ge 10 [] _) p1
 have ps := Nat.le_trans (rword_ge l 1 s) p0
 have hw : Sim False d m (rword l 2) (rword l' 2) := fun s he h0 hp => .inr (hA.word h0 (Nat.le_trans (rword_ge l 2 s) hp))
 rw [hA.word n0 ps]
 simp only [(rargs_sim hA hw hs (fun s h => rword_end h) 10 []).eq n0 n1 p1, hA.need n2 p1, (rctor_sim hA).eq n2 n3 p3]
 rw [rbars_sim hA l.length l'.length _ _ n3 (by omega) (by omega) h0 hp]
theorem ritPred_sim (hA : Alike l l' d m) : Sim False d m (ritPred l) (ritPred l') := fun s he h0 hp => by
 right
 simp only [ritPred] at h0 hp ⊢
 have hs := rtype_steps l 66 1
 have n0 : (rword l 1 s).2.err = 0 := by
  apply Classical.byContradiction; intro hn
  rw [rargs_stop hn] at h0; exact hn h0
 have p0 := Nat.le_trans (rargs_ge hs.ge 10 [] _) hp
 have ps := Nat.le_trans (rword_ge l 1 s) p0
 have ht := rtype_sim (P := False) hA 66 66 1 1 (by decide) (by decide) (by decide) (by decide) (by decide) (fun h => h rfl)
 rw [hA.word n0 ps]
 simp only [(rargs_sim hA ht hs (fun s h => rtype_end (by decide) h) 10 []).eq n0 h0 hp]
theorem rdet_err (h : s.err ≠ 0) : (rdet l s).2.err ≠ 0 := by
 simp only [rdet, rgot_errs h, Bool.false_eq_true, if_false]
 rw [rfail, if_neg h]; exact h
theorem ritMode_sim (hA : Alike l l' d m) : Sim False d m (ritMode l) (ritMode l') := fun s he h0 hp => by
 right
 simp only [ritMode] at h0 hp ⊢
 have hs := rwayIn_steps l
 have n2 : (rneed l kIs (rargs (rwayIn l) l 10 [] (rword l 1 s).2).2).err = 0 := by
  apply Classical.byContradiction; intro hn
  exact rdet_err hn h0
 have n1 := (rneed_ok n2).1
 have n0 : (rword l 1 s).2.err = 0 := by
  apply Classical.byContradiction; intro hn
  rw [rargs_stop hn] at n1; exact hn n1
 have p2 := Nat.le_trans ((rdet_steps l).ge _) hp
 have p1 := Nat.le_trans (rneed_ge l kIs _) p2
 have p0 := Nat.le_trans (rargs_ge hs.ge 10 [] _) p1
 have ps := Nat.le_trans (rword_ge l 1 s) p0
 rw [hA.word n0 ps]
 simp only [(rargs_sim hA (rwayIn_sim hA) hs (fun s h => rwayIn_end h) 10 []).eq n0 n1 p1, hA.need n2 p1, (rdet_sim hA).eq n2 h0 hp]
theorem ritClause_sim (hA : Alike l l' d m) : Sim False d m (ritClause l) (ritClause l') := fun s he h0 hp => by
 right
 have hs := rterm_steps l 66 1
 have pg : (rargs (rterm 66 l 1) l 10 [] (rword l 1 s).2).2.pos ≤ (ritClause l s).2.pos := by
  simp only [ritClause]; split
  ·exact Nat.le_trans (rgot_ge ..) ((rgoal_steps l 66 1).ge _)
  ·exact Nat.le_refl _
 have p1 := Nat.le_trans pg hp
 simp only [ritClause] at h0 hp ⊢
 have n1 : (rargs (rterm 66 l 1) l 10 [] (rword l 1 s).2).2.err = 0 := by
  apply Classical.byContradiction; intro hn
  simp only [rgot_errs hn, Bool.false_eq_true, if_false] at h0; exact hn h0
 have n0 : (rword l 1 s).2.err = 0 := by
  apply Classical.byContradiction; intro hn
  rw [rargs_stop hn] at n1; exact hn n1
 have p0 := Nat.le_trans (rargs_ge hs.ge 10 [] _) p1
 have ps := Nat.le_trans (rword_ge l 1 s) p0
 have ht := rterm_sim (P := False) hA 66 66 1 1 (by decide) (by decide) (by decide) (by decide) (by decide) (fun h => h rfl)
 have hg := rgoal_sim (P := False) hA (f := 66) (f' := 66) (n := 1) (n' := 1) (by decide) (by decide) (by decide) (by decide) (by decide) (fun h => h rfl)
 rw [hA.word n0 ps]
 simp only [(rargs_sim hA ht hs (fun s h => rterm_end (by decide) h) 10 []).eq n0 n1 p1, hA.got (t := kIf) n1 p1 (by decide)]
 by_cases c : (rgot l kIf (rargs (rterm 66 l 1) l 10 [] (rword l 1 s).2).2).1 = true
 ·rw [if_pos c] at h0 hp
  rw [if_pos c, if_pos c]
  rw [hg.eq (by rw [rgot_err]; exact n1) h0 hp]
 ·rw [if_neg c, if_neg c]
theorem ritem_sim (hA : Alike l l' d m) : Sim False d m (ritem l) (ritem l') := fun s he h0 hp => by
 have hps : s.pos ≤ m := Nat.le_trans ((ritem_steps l).ge s) hp
 have ge := fun t => show (rgot l t s).2.err = 0 by rw [rgot_err]; exact he
 right
 simp only [ritem, hA.got (t := kType) he hps (by decide), hA.got (t := kPred) he hps (by decide), hA.got (t := kMode) he hps (by decide)] at h0 hp ⊢
 by_cases c1 : (rgot l kType s).1 = true
 ·rw [if_pos c1] at h0 hp; rw [if_pos c1, if_pos c1]
  exact (ritType_sim hA).eq (ge _) h0 hp
 rw [if_neg c1] at h0 hp; rw [if_neg c1, if_neg c1]
 by_cases c2 : (rgot l kPred s).1 = true
 ·rw [if_pos c2] at h0 hp; rw [if_pos c2, if_pos c2]
  exact (ritPred_sim hA).eq (ge _) h0 hp
 rw [if_neg c2] at h0 hp; rw [if_neg c2, if_neg c2]
 by_cases c3 : (rgot l kMode s).1 = true
 ·rw [if_pos c3] at h0 hp; rw [if_pos c3, if_pos c3]
  exact (ritMode_sim hA).eq (ge _) h0 hp
 rw [if_neg c3] at h0 hp; rw [if_neg c3, if_neg c3]
 exact (ritClause_sim hA).eq he h0 hp
end
theorem ritems_stop {l : List Tok} {k : Nat} {is : List It} {s : RdS} (h : rend l s = true) : ritems l k is s = (is, s) := by
 cases k with
 | zero => rfl
 | succ k => simp only [ritems, h, if_true]
/-- One item more, read well. -/
theorem ritems_one {l : List Tok} {k : Nat} {is : List It} {s : RdS} (hr : rend l s = false) (h : (ritems l (k + 1) is s).2.err = 0) :
  is.length ≠ 512 ∧ (ritem l s).2.err = 0 ∧ (rneed l kDot (ritem l s).2).err = 0 ∧ s.pos < (rneed l kDot (ritem l s).2).pos ∧ (ritem l s).2.pos < l.length ∧ ritems l (k + 1) is s = ritems l k (is ++ [(ritem l s).1]) (rneed l kDot (ritem l s).2) := by
 simp only [ritems, hr, Bool.false_eq_true, if_false] at h ⊢
 by_cases h5 : is.length = 512
 ·rw [if_pos h5] at h
  exact absurd h (rfail_err (by decide) _)
 ·rw [if_neg h5] at h
  have hn : (rneed l kDot (ritem l s).2).err = 0 := by
   apply Classical.byContradiction; intro hn
   rw [ritems_stop (by simp [rend, hn])] at h
   exact hn h
  obtain ⟨h1, h2⟩ := rneed_ok hn
  obtain ⟨_, hg, _⟩ := need_got hn
  have := (ritem_steps l).ge s
  exact ⟨h5, h1, hn, by omega, (got_tok hg).2.1, by rw [if_neg h5]⟩
/-- The items of the first of two rows. -/
theorem ritems_left {l1 l2 : List Tok} : ∀ (k : Nat) (xs : List It) (s : RdS), s.err = 0 → s.pos ≤ l1.length → l1.length + 1 ≤ k + s.pos → (ritems l1 k xs s).2.err = 0 → l1.length ≤ (ritems l1 k xs s).2.pos → ∀ K, (l1 ++ l2).length + 1 ≤ K + s.pos →
  ∃ K', (l1 ++ l2).length + 1 ≤ K' + l1.length ∧ ritems (l1 ++ l2) K xs s = ritems (l1 ++ l2) K' (ritems l1 k xs s).1 ⟨l1.length, 0⟩
 | 0, xs, s, he, hs, hk, _, _, _, _ => by omega
 | k + 1, xs, s, he, hs, hk, h0, hp, K, hK => by
  cases hr : rend l1 s with
  | true =>
   rw [rend_eq he] at hr
   have := of_decide_eq_true hr
   have e : s = ⟨l1.length, 0⟩ := by
    obtain ⟨p, e⟩ := s
    simp only at he hs this
    subst he
    congr 1; omega
   rw [ritems_stop (l := l1) (by rw [rend_eq he]; exact hr)]
   exact ⟨K, by subst e; exact hK, by rw [← e]⟩
  | false =>
   obtain ⟨h5, g1, g2, g3, g4, e⟩ := ritems_one hr h0
   rw [e] at h0 hp ⊢
   have hge := (ritem_steps l1).ge s
   have hA : Alike l1 (l1 ++ l2) 0 (l1.length - 1) := fun p hp => .inl (by rw [Nat.add_zero, List.getElem?_append_left (by omega)])
   have s0 : ∀ s, sh 0 s = s := fun s => rfl
   have e1 := (ritem_sim hA).eq he g1 (by omega)
   have e2 := hA.need g2 (by omega)
   rw [s0, s0] at e1 e2
   have hr' : rend (l1 ++ l2) s = false := by
    rw [rend_eq he] at hr ⊢
    have := of_decide_eq_false hr
    simp; omega
   obtain ⟨J, rfl⟩ : ∃ J, K = J + 1 := ⟨K - 1, by have := of_decide_eq_false (by rw [rend_eq he] at hr; exact hr); simp at hK; omega⟩
   have e3 : ritems (l1 ++ l2) (J + 1) xs s = ritems (l1 ++ l2) J (xs ++ [(ritem l1 s).1]) (rneed l1 kDot (ritem l1 s).2) := by
    simp only [ritems, hr', Bool.false_eq_true, if_false, if_neg h5, e1, e2]
   rw [e3]
   exact ritems_left k _ _ g2 (by have := (rneed_ok g2).2; omega) (by omega) h0 hp J (by omega)
theorem ritems_more {l : List Tok} : ∀ (k : Nat) (xs : List It) (s : RdS), ∃ ys, (ritems l k xs s).1 = xs ++ ys
 | 0, xs, s => ⟨[], by simp [ritems]⟩
 | k + 1, xs, s => by
  simp only [ritems]
  repeat' split
  ·exact ⟨[], by simp⟩
  ·exact ⟨[], by simp⟩
  ·obtain ⟨ys, e⟩ := ritems_more (l := l) k (xs ++ [(ritem l s).1]) (rneed l kDot (ritem l s).2)
   exact ⟨_, by rw [e, List.append_assoc]⟩
/-- The items of the second of two rows. -/
theorem ritems_right {l1 l2 : List Tok} (pre : List It) : ∀ (k : Nat) (xs : List It) (s : RdS), s.err = 0 → l2.length + 1 ≤ k + s.pos → (ritems l2 k xs s).2.err = 0 → pre.length + (ritems l2 k xs s).1.length ≤ 512 → ∀ K, (l1 ++ l2).length + 1 ≤ K + (s.pos + l1.length) →
  ritems (l1 ++ l2) K (pre ++ xs) (sh l1.length s) = (pre ++ (ritems l2 k xs s).1, sh l1.length (ritems l2 k xs s).2)
 | 0, xs, s, he, hk, _, _, K, hK => by
  rw [ritems_stop]
  ·rfl
  ·rw [rend_eq (s := sh l1.length s) he]; simp [sh]; omega
 | k + 1, xs, s, he, hk, h0, hn, K, hK => by
  cases hr : rend l2 s with
  | true =>
   rw [ritems_stop hr, ritems_stop]
   rw [rend_eq he] at hr
   have := of_decide_eq_true hr
   rw [rend_eq (s := sh l1.length s) he]; simp [sh]; omega
  | false =>
   obtain ⟨h5, g1, g2, g3, g4, e⟩ := ritems_one hr h0
   rw [e] at h0 hn ⊢
   have hA : Alike l2 (l1 ++ l2) l1.length l2.length := fun p hp => .inl (by rw [List.getElem?_append_right (by omega)]; congr 1; omega)
   have hlt : s.pos < l2.length := by rw [rend_eq he] at hr; have := of_decide_eq_false hr; omega
   have e1 := (ritem_sim hA).eq he g1 (by omega)
   have e2 := hA.need g2 (by omega)
   have hr' : rend (l1 ++ l2) (sh l1.length s) = false := by
    rw [rend_eq (s := sh l1.length s) he]; simp [sh]; omega
   obtain ⟨J, rfl⟩ : ∃ J, K = J + 1 := ⟨K - 1, by simp at hK; omega⟩
   obtain ⟨ys, ey⟩ := ritems_more (l := l2) k (xs ++ [(ritem l2 s).1]) (rneed l2 kDot (ritem l2 s).2)
   have h5' : (pre ++ xs).length ≠ 512 := by
    have := congrArg List.length ey
    simp only [List.length_append, List.length_cons, List.length_nil] at this ⊢
    omega
   have e3 : ritems (l1 ++ l2) (J + 1) (pre ++ xs) (sh l1.length s) = ritems (l1 ++ l2) J (pre ++ (xs ++ [(ritem l2 s).1])) (sh l1.length (rneed l2 kDot (ritem l2 s).2)) := by
    simp only [ritems, hr', Bool.false_eq_true, if_false, if_neg h5', e1, e2, List.append_assoc]
   rw [e3]
   exact ritems_right pre k _ _ g2 (by omega) h0 hn J (by omega)
theorem rsource_ok {l : List Tok} {is : List It} : rsource l 0 = (is, 0) ↔ (ritems l (l.length + 1) [] ⟨0, 0⟩).1 = is ∧ (ritems l (l.length + 1) [] ⟨0, 0⟩).2.err = 0 ∧ l.length ≤ (ritems l (l.length + 1) [] ⟨0, 0⟩).2.pos := by
 unfold rsource rdone
 generalize ritems l (l.length + 1) [] ⟨0, 0⟩ = r
 obtain ⟨r1, p, e⟩ := r
 by_cases h : e = 0 ∧ p < l.length
 ·obtain ⟨rfl, h⟩ := h
  simp [h]
 ·simp only [h, if_false]
  by_cases he : e = 0
  ·subst he; simp at h; simp [h]
  ·simp [he]
/-- Two rows of items, one behind the other. -/
theorem rsource_app {l1 l2 : List Tok} {is1 is2 : List It} (h1 : rsource l1 0 = (is1, 0)) (h2 : rsource l2 0 = (is2, 0)) (hn : is1.length + is2.length ≤ 512) : rsource (l1 ++ l2) 0 = (is1 ++ is2, 0) := by
 obtain ⟨a1, a2, a3⟩ := rsource_ok.1 h1
 obtain ⟨b1, b2, b3⟩ := rsource_ok.1 h2
 obtain ⟨K, hK, e⟩ := ritems_left (l2 := l2) (l1.length + 1) [] ⟨0, 0⟩ rfl (Nat.zero_le _) (by simp) a2 a3 ((l1 ++ l2).length + 1) (by simp)
 rw [a1] at e
 have e2 := ritems_right (l1 := l1) is1 (l2.length + 1) [] ⟨0, 0⟩ rfl (by simp) b2 (by rw [b1]; exact hn) K (by simpa [Nat.add_comm] using hK)
 rw [b1, List.append_nil, show sh l1.length ⟨0, 0⟩ = ⟨l1.length, 0⟩ by simp [sh]] at e2
 rw [e2] at e
 rw [rsource_ok, e]
 exact ⟨rfl, b2, by simp only [sh, List.length_append]; omega⟩
end Go.Aug

/- Plain: texts one behind the other, spread texts, texts in brackets. -/
namespace Go.Aug
set_option maxRecDepth 100000
set_option linter.unusedSimpArgs false
theorem rsource_err {l : List Tok} {e : Int} (he : e ≠ 0) : rsource l e = ([], e) := by
 unfold rsource
 rw [ritems_stop (by simp [rend, he])]
 simp only [rdone, he, false_and, if_false, ne_eq, not_false_eq_true, if_true]
theorem rsrc_ok {s : ByteArray} {is : List It} : rsource (rlex s).1 (rlex s).2 = (is, 0) ↔ ∃ l, rlex s = (l, 0) ∧ rsource l 0 = (is, 0) := by
 obtain ⟨l, e⟩ := rlex s
 by_cases he : e = 0
 ·subst he
  exact ⟨fun h => ⟨l, rfl, h⟩, fun ⟨l', h1, h2⟩ => by obtain ⟨rfl, _⟩ := Prod.mk.inj h1; exact h2⟩
 ·simp only [rsource_err he]
  refine ⟨fun h => ?_, fun ⟨l', h1, _⟩ => ?_⟩
  ·exact absurd (Prod.mk.inj h).2 he
  ·exact absurd (Prod.mk.inj h1).2 he
theorem app_list (a b : ByteArray) : (a ++ b).data.toList = a.data.toList ++ b.data.toList := by simp
theorem app_size (a b : ByteArray) : (a ++ b).size = a.size + b.size := by simp
/-- Two sources, one behind the other. -/
theorem rows_app {s t : ByteArray} {a b : List It} (h1 : rsource (rlex s).1 (rlex s).2 = (a, 0)) (h2 : rsource (rlex t).1 (rlex t).2 = (b, 0)) (hs : s.size + t.size < 16384) (hn : a.length + b.length ≤ 512) :
  rsource (rlex (s ++ ⟨#[10]⟩ ++ t)).1 (rlex (s ++ ⟨#[10]⟩ ++ t)).2 = (a ++ b, 0) := by
 obtain ⟨l1, e1, r1⟩ := rsrc_ok.1 h1
 obtain ⟨l2, e2, r2⟩ := rsrc_ok.1 h2
 have hl : rlex (s ++ ⟨#[10]⟩ ++ t) = (l1 ++ l2, 0) := by
  rw [rlex_lexed]
  refine ⟨by rw [app_size, app_size]; show s.size + 1 + t.size ≤ 16384; omega, ?_⟩
  rw [app_list, app_list, List.append_assoc]
  exact (rlex_lexed.1 e1).2.app (rlex_lexed.1 e2).2
 rw [hl]
 exact rsource_app r1 r2 hn
/-- The five blanks. -/
def blanks : List ByteArray := [⟨#[32]⟩, ⟨#[10]⟩, ⟨#[32, 37, 32, 115, 111, 10]⟩, ⟨#[9, 9]⟩, ⟨#[13, 10]⟩]
end Go.Aug
