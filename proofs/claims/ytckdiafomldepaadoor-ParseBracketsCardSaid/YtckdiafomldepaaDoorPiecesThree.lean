/- Texts piece by piece: what the lexer's and the reader's plain forms make of them; conditions stand in each theorem. -/
import Derived.Test.YtckdiafomldepaaDoorPiecesTwo
import Derived.Test.YtckdiafomldepaaDoorGrammarThree
set_option linter.all false
set_option linter.unusedVariables false
set_option linter.unusedSimpArgs false
set_option linter.unusedSectionVars false

/- Plain: the reader over rows of tokens that stand alike. -/
namespace Go.Aug
set_option maxRecDepth 100000
set_option linter.unusedSimpArgs false
/-- The same tokens, d apart, up to the place m; where the first row ends, a closing bracket may stand. -/
def Alike (l l' : List Tok) (d m : Nat) : Prop := ∀ p, p ≤ m → l'[p + d]? = l[p]? ∨ (l[p]? = none ∧ l'[p + d]? = some tokClose)
def sh (d : Nat) (s : RdS) : RdS := ⟨s.pos + d, s.err⟩
theorem ris_pk {l : List Tok} {t : ByteArray} {s : RdS} (he : s.err = 0) : ris l t s = match l[s.pos]? with
 | some k => decide (k.text = t) && (decide (k.kind = 1) || decide (k.kind = 4))
 | none => false := by
 cases hk : l[s.pos]? with
 | none =>
  have hl := List.getElem?_eq_none_iff.1 hk
  simp [ris, rend_eq he, hl]
 | some k =>
  have hl := (List.getElem?_eq_some_iff.1 hk).1
  have : rend l s = false := by rw [rend_eq he]; simp; omega
  simp [ris, this, hk]
section
variable {l l' : List Tok} {d m : Nat} {P : Prop} {s : RdS} {t : ByteArray}
theorem Alike.at_ (h : Alike l l' d m) {p : Nat} {k : Tok} (hp : p ≤ m) (hk : l[p]? = some k) : l'[p + d]? = some k := by
 rcases h p hp with e | ⟨e, _⟩
 ·rw [e, hk]
 ·rw [e] at hk; cases hk
theorem got_of {b : Bool} (e : ris l t s = b) (e' : ris l' t (sh d s) = b) : rgot l' t (sh d s) = ((rgot l t s).1, sh d (rgot l t s).2) := by
 unfold rgot
 rw [e, e']
 cases b with
 | true => simp only [if_true, sh]; congr 2; omega
 | false => simp only [Bool.false_eq_true, if_false]
theorem Alike.got (h : Alike l l' d m) (he : s.err = 0) (hp : s.pos ≤ m) (ht : t ≠ ⟨#[41]⟩) : rgot l' t (sh d s) = ((rgot l t s).1, sh d (rgot l t s).2) := by
 refine got_of rfl ?_
 rw [ris_pk he, ris_pk (s := sh d s) he]
 rcases h s.pos hp with e | ⟨e1, e2⟩
 ·rw [show (sh d s).pos = s.pos + d from rfl, e]
 ·rw [show (sh d s).pos = s.pos + d from rfl, e1, e2]
  have : tokClose.text ≠ t := fun hh => ht hh.symm
  simp [this]
theorem Alike.gotK (h : Alike l l' d m) (he : s.err = 0) (hp : s.pos ≤ m) {k : Tok} (hk : l[s.pos]? = some k) : rgot l' t (sh d s) = ((rgot l t s).1, sh d (rgot l t s).2) := by
 refine got_of rfl ?_
 rw [ris_pk he, ris_pk (s := sh d s) he, show (sh d s).pos = s.pos + d from rfl, h.at_ hp hk, hk]
theorem got_tok (h : (rgot l t s).1 = true) : s.err = 0 ∧ s.pos < l.length ∧ ∃ k, l[s.pos]? = some k := by
 obtain ⟨h1, _, h3⟩ := rgot_true h
 exact ⟨h1, h3, _, List.getElem?_eq_getElem h3⟩
theorem need_got (h : (rneed l t s).err = 0) : s.err = 0 ∧ (rgot l t s).1 = true ∧ rneed l t s = (rgot l t s).2 := by
 have h0 := (rneed_ok h).1
 unfold rneed at h ⊢
 rw [if_pos h0] at h ⊢
 by_cases hg : (rgot l t s).1 = true
 ·rw [if_pos hg]; exact ⟨h0, hg, rfl⟩
 ·rw [if_neg hg] at h; exact absurd h (rfail_err (by decide) _)
theorem Alike.need (h : Alike l l' d m) (h0 : (rneed l t s).err = 0) (hp : s.pos ≤ m) : rneed l' t (sh d s) = sh d (rneed l t s) := by
 obtain ⟨he, hg, e⟩ := need_got h0
 obtain ⟨_, _, k, hk⟩ := got_tok hg
 have := h.gotK (t := t) he hp hk
 rw [hg] at this
 rw [rneed, if_pos (show (sh d s).err = 0 from he), this, if_pos rfl, e]
theorem Alike.word (h : Alike l l' d m) {k : Int} (h0 : (rword l k s).2.err = 0) (hp : s.pos ≤ m) : rword l' k (sh d s) = ((rword l k s).1, sh d (rword l k s).2) := by
 obtain ⟨he, _, hr⟩ := rword_ok h0
 obtain ⟨_, _, x, hx⟩ := rend_tok hr
 have hx' := h.at_ hp hx
 have hr' : rend l' (sh d s) = false := by
  rw [rend_eq (s := sh d s) he]
  have := (List.getElem?_eq_some_iff.1 hx').1
  exact decide_eq_false (by show ¬ l'.length ≤ s.pos + d; omega)
 unfold rword at h0 ⊢
 rw [hr, hr']
 rw [hr] at h0
 simp only [Bool.false_eq_true, if_false, hx, show (sh d s).pos = s.pos + d from rfl, hx'] at h0 ⊢
 split
 ·rename_i hc
  rw [if_pos hc] at h0
  exact absurd h0 (rfail_err (by decide) _)
 ·simp only [sh]; congr 2; omega
theorem moreFin_8 {n : Nat} (hn : n ≠ 8) : rmoreFin l n s = (decide (s.err = 0), s) := by
 simp only [rmoreFin, if_neg (show ¬ (n = 8 ∧ rend l s = false) from fun h => hn h.1)]
theorem Alike.more (h : Alike l l' d m) {n : Nat} (hn : n ≠ 8 ∨ (rmore l n s).1 = false) (he : s.err = 0) (h0 : (rmore l n s).2.err = 0) (hp : (rmore l n s).2.pos ≤ m) : rmore l' n (sh d s) = ((rmore l n s).1, sh d (rmore l n s).2) := by
 have hps : s.pos ≤ m := Nat.le_trans (rmore_ge l n s) hp
 by_cases h1 : n = 0
 ·subst h1
  have e := h.got (t := ⟨#[40]⟩) he hps (by decide)
  simp only [rmore, if_true, e]
  split
  ·rw [moreFin_8 (by decide), moreFin_8 (by decide)]; rfl
  ·rfl
 ·unfold rmore at h0 hp hn ⊢
  rw [if_neg h1] at h0 hp hn ⊢
  rw [if_neg h1]
  cases hg : (rgot l ⟨#[41]⟩ s).1 with
  | true =>
   obtain ⟨_, _, k, hk⟩ := got_tok hg
   have e := h.gotK (t := ⟨#[41]⟩) he hps hk
   rw [hg] at e
   rw [e, if_pos (.inl rfl), if_pos (.inl rfl)]
  | false =>
   have e2 := rgot_false hg
   rw [hg, e2, if_neg (by simp [he])] at h0 hp hn
   rw [if_neg (show ¬ (false = true ∨ (rgot l ⟨#[41]⟩ s).2.err ≠ 0) by simp [e2, he]), e2]
   have hn8 : n ≠ 8 := by
    rcases hn with hn | hn
    ·exact hn
    ·simp only [rmoreFin, decide_eq_false_iff_not] at hn
     exact absurd h0 hn
   rw [moreFin_8 hn8] at h0 hp
   obtain ⟨_, hg2, _⟩ := need_got h0
   obtain ⟨_, _, k, hk⟩ := got_tok hg2
   have e := h.gotK (t := ⟨#[41]⟩) he hps hk
   rw [hg, e2] at e
   rw [e, if_neg (show ¬ (false = true ∨ (sh d s).err ≠ 0) by simp [sh, he]), h.need h0 hps, moreFin_8 hn8, moreFin_8 hn8]
   rfl
/-- Where the first one reads well, the second one reads the same, or tells that it is too deep. -/
def Sim {α : Type} (P : Prop) (d m : Nat) (q q' : RdS → α × RdS) : Prop := ∀ s : RdS, s.err = 0 → (q s).2.err = 0 → (q s).2.pos ≤ m → (P ∧ (q' (sh d s)).2.err = 3) ∨ q' (sh d s) = ((q s).1, sh d (q s).2)
theorem err_3 {e : Int} (h : e = 3) : e ≠ 0 := by omega
theorem rargs_sim {α : Type} {q q' : RdS → α × RdS} (hA : Alike l l' d m) (hq : Sim P d m q q') (hs : Steps l q) (hend : ∀ s, rend l s = true → (q s).2.err ≠ 0) : ∀ (k : Nat) (xs : List α), Sim P d m (rargs q l k xs) (rargs q' l' k xs)
 | 0, xs, s, _, _, _ => .inr rfl
 | k + 1, xs, s, he, h0, hp => by
  have he' : (sh d s).err = 0 := he
  simp only [rargs, if_pos he] at h0 hp
  simp only [rargs, if_pos he, if_pos he']
  cases hm : (rmore l xs.length s).1 with
  | false =>
   simp only [hm, Bool.false_eq_true, if_false] at h0 hp
   have e := hA.more (.inr hm) he h0 hp
   rw [hm] at e
   right
   simp only [e, Bool.false_eq_true, if_false]
  | true =>
   simp only [hm, if_true] at h0 hp
   obtain ⟨r0, _, r8⟩ := rmore_true hm
   by_cases hqe : (q (rmore l xs.length s).2).2.err = 0
   ·have hn8 : xs.length ≠ 8 := fun h => hend _ (r8 h) hqe
    have hp1 := Nat.le_trans (rargs_ge hs.ge k _ _) hp
    have e := hA.more (.inl hn8) he r0 (Nat.le_trans (hs.ge _) hp1)
    rw [hm] at e
    simp only [e, if_true]
    rcases hq _ r0 hqe hp1 with ⟨hP, h3⟩ | e2
    ·left
     refine ⟨hP, ?_⟩
     rw [rargs_stop (err_3 h3)]
     exact h3
    ·rw [e2]
     exact rargs_sim hA hq hs hend k _ _ hqe h0 hp
   ·rw [rargs_stop hqe] at h0
    exact absurd h0 hqe
theorem rterm_nerr {f n : Nat} (h : (rnest l n s).err ≠ 0) : (rterm (f + 1) l n s).2.err = (rnest l n s).err := by
 have hr : rend l (rnest l n s) = true := by simp [rend, h]
 simp only [rterm, hr, if_true, rword_err h, rargs_stop h]
theorem nest_big {n : Nat} (he : s.err = 0) (hn : 64 < n) (hl : s.pos < l.length) : (rnest l n s).err = 3 := by rw [rnest_is he, if_pos ⟨hn, hl⟩]
theorem rterm_sim (hA : Alike l l' d m) : ∀ (f f' n n' : Nat), n ≤ 65 → n' ≤ 65 → 67 ≤ f + n → 67 ≤ f' + n' → n ≤ n' → (n' ≠ n → P) → Sim P d m (rterm f l n) (rterm f' l' n')
 | 0, f', n, n', h1, h2, h3, h4, h5, hP => by omega
 | f + 1, 0, n, n', h1, h2, h3, h4, h5, hP => by omega
 | f + 1, g + 1, n, n', h1, h2, h3, h4, h5, hP => by
  intro s he h0 hp
  have hps : s.pos ≤ m := Nat.le_trans (rterm_ge ..) hp
  cases hr : rend l s with
  | true => exact absurd h0 (rterm_end (by omega) hr)
  | false =>
   obtain ⟨_, hl, k, hk⟩ := rend_tok hr
   have hk' := hA.at_ hps hk
   have hl' := (List.getElem?_eq_some_iff.1 hk').1
   have hn : n ≤ 64 := by
    apply Classical.byContradiction; intro hn
    have e := nest_big he (show 64 < n by omega) hl
    rw [rterm_nerr (err_3 e), e] at h0; cases h0
   by_cases hn' : n' ≤ 64
   ·have e0 := rterm_is (l := l) (f := f) (n := n) he (by rw [rnest_no hn]; exact he)
    have e1 := rterm_is (f := g) (n := n') (s := sh d s) (l := l') he (by rw [rnest_no (l := l') hn']; exact he)
    rw [show rpeek l' (sh d s).pos = rpeek l s.pos by rw [rpeek_some hk]; exact rpeek_some hk'] at e1
    rw [e0] at h0 hp ⊢
    rw [e1]
    by_cases c2 : (rpeek l s.pos).kind = 2
    ·rw [if_pos c2, if_pos c2]; right; simp only [sh]; congr 2; omega
    ·rw [if_neg c2] at h0 hp
     rw [if_neg c2, if_neg c2]
     by_cases c3 : (rpeek l s.pos).kind = 3
     ·rw [if_pos c3, if_pos c3]; right; simp only [sh]; congr 2; omega
     ·rw [if_neg c3] at h0 hp
      rw [if_neg c3, if_neg c3]
      by_cases hw : (rword l 1 s).2.err = 0
      ·rw [hA.word hw hps]
       rcases rargs_sim hA (rterm_sim hA f g (n + 1) (n' + 1) (by omega) (by omega) (by omega) (by omega) (by omega) (fun h => hP (by omega))) (rterm_steps l f (n + 1)) (fun s h => rterm_end (by omega) h) 10 [] _ hw h0 hp with h | e
       ·exact .inl h
       ·right; rw [e]
      ·rw [rargs_stop hw] at h0
       exact absurd h0 hw
   ·left
    have e := nest_big (s := sh d s) he (show 64 < n' by omega) hl'
    exact ⟨hP (by omega), by rw [rterm_nerr (err_3 e), e]⟩
theorem rjoin_no {q : RdS → Gl × RdS} {mk : ByteArray} {gs : List Gl} (h : (rgot l mk s).1 = false) (k : Nat) : rjoin q mk l k gs s = (gs, s) := by
 cases k with
 | zero => rfl
 | succ k => simp only [rjoin, h, Bool.false_eq_true, if_false]
theorem rjoin_sim {q q' : RdS → Gl × RdS} {mk : ByteArray} (hA : Alike l l' d m) (hq : Sim P d m q q') (hs : Steps l q) (hmk : mk ≠ ⟨#[41]⟩) : ∀ (k k' : Nat) (gs : List Gl) (s : RdS), s.err = 0 → l.length ≤ k + s.pos → l'.length ≤ k' + (s.pos + d) → (rjoin q mk l k gs s).2.err = 0 → (rjoin q mk l k gs s).2.pos ≤ m →
  (P ∧ (rjoin q' mk l' k' gs (sh d s)).2.err = 3) ∨ rjoin q' mk l' k' gs (sh d s) = ((rjoin q mk l k gs s).1, sh d (rjoin q mk l k gs s).2)
 | k, k', gs, s, he, hk, hk', h0, hp => by
  have hps : s.pos ≤ m := Nat.le_trans ((rjoin_steps hs k gs).ge s) hp
  have e := hA.got he hps hmk
  cases hg : (rgot l mk s).1 with
  | false =>
   rw [hg] at e
   right
   rw [rjoin_no hg, rjoin_no (by rw [e])]
  | true =>
   obtain ⟨_, hl, x, hx⟩ := got_tok hg
   have hl' := (List.getElem?_eq_some_iff.1 (hA.at_ hps hx)).1
   obtain ⟨_, g2, _⟩ := rgot_true hg
   have g3 : (rgot l mk s).2.err = 0 := by rw [rgot_err]; exact he
   rw [hg] at e
   match k, k', hk, hk' with
   | 0, _, hk, _ => omega
   | _ + 1, 0, _, hk' => omega
   | k + 1, k' + 1, hk, hk' =>
    simp only [rjoin, hg, if_true] at h0 hp
    simp only [rjoin, hg, e, if_true]
    by_cases hqe : (q (rgot l mk s).2).2.err = 0
    ·have hp1 := Nat.le_trans ((rjoin_steps hs k _).ge _) hp
     have hge := hs.ge (rgot l mk s).2
     rcases hq _ g3 hqe hp1 with ⟨hP, h3⟩ | e2
     ·left
      refine ⟨hP, ?_⟩
      rw [rjoin_err (err_3 h3)]
      exact h3
     ·rw [e2]
      exact rjoin_sim hA hq hs hmk k k' _ _ hqe (by omega) (by omega) h0 hp
    ·rw [rjoin_err hqe] at h0
     exact absurd h0 hqe
theorem rjoined_sim {q q' : RdS → Gl × RdS} {mk : ByteArray} {kind : Int} (hA : Alike l l' d m) (hq : Sim P d m q q') (hs : Steps l q) (hmk : mk ≠ ⟨#[41]⟩) : Sim P d m (rjoined kind mk q l) (rjoined kind mk q' l') := fun s he h0 hp => by
 simp only [rjoined] at h0 hp ⊢
 by_cases hqe : (q s).2.err = 0
 ·rcases hq _ he hqe (Nat.le_trans ((rjoin_steps hs _ _).ge _) hp) with ⟨hP, h3⟩ | e
  ·left
   refine ⟨hP, ?_⟩
   rw [rjoin_err (err_3 h3)]
   exact h3
  ·rw [e]
   rcases rjoin_sim hA hq hs hmk l.length l'.length [(q s).1] _ hqe (by omega) (by omega) h0 hp with h | h
   ·exact .inl h
   ·right; rw [h]
 ·rw [rjoin_err hqe] at h0
  exact absurd h0 hqe
theorem rgoalW_sim {q q' : RdS → Gl × RdS} (hA : Alike l l' d m) (hq : Sim P d m q q') (hs : Steps l q) (hs' : Steps l' q') : Sim P d m (rgoalW q l) (rgoalW q' l') := fun s he h0 hp => by
 rw [rgoal_join hs he] at h0 hp ⊢
 rw [rgoal_join hs' (s := sh d s) he]
 exact rjoined_sim hA (rjoined_sim hA hq hs (by decide)) (rjoined_steps hs) (by decide) s he h0 hp
theorem rtry_sim {q q' : RdS → Gl × RdS} (hA : Alike l l' d m) (hq : Sim P d m q q') (hs : Steps l q) (hq1 : Sticky q) (hq2 : Sticky q') : Sim P d m (rtry q l) (rtry q' l') := fun s he h0 hp => by
 obtain ⟨t1, t2⟩ := rtry_is (l := l) (s := s) hq1
 rw [t2] at h0 hp
 have n4 : (rneed l kThen (rword l 2 (rneed l kCatch (q s).2)).2).err = 0 := by
  apply Classical.byContradiction; intro hn
  rw [hq1 _ hn] at h0; exact hn h0
 have n3 := (rneed_ok n4).1
 have n2 := (rword_ok n3).1
 have n1 := (rneed_ok n2).1
 have p4 := Nat.le_trans (hs.ge _) hp
 have p3 := Nat.le_trans (rneed_ge l kThen _) p4
 have p2 := Nat.le_trans (rword_ge l 2 _) p3
 have p1 := Nat.le_trans (rneed_ge l kCatch _) p2
 rcases hq _ he n1 p1 with ⟨hP, h3⟩ | e
 ·exact .inl ⟨hP, by rw [rtry_e1 hq2 (err_3 h3), h3]⟩
 ·have e2 : rneed l' kCatch (q' (sh d s)).2 = sh d (rneed l kCatch (q s).2) := by rw [e]; exact hA.need n2 p1
  have e3 : rword l' 2 (rneed l' kCatch (q' (sh d s)).2) = ((rword l 2 (rneed l kCatch (q s).2)).1, sh d (rword l 2 (rneed l kCatch (q s).2)).2) := by rw [e2]; exact hA.word n3 p2
  have e4 : rneed l' kThen (rword l' 2 (rneed l' kCatch (q' (sh d s)).2)).2 = sh d (rneed l kThen (rword l 2 (rneed l kCatch (q s).2)).2) := by rw [e3]; exact hA.need n4 p3
  obtain ⟨u1, u2⟩ := rtry_is (l := l') (s := sh d s) hq2
  rcases hq _ n4 h0 hp with ⟨hP, h3⟩ | e5
  ·left
   refine ⟨hP, ?_⟩
   rw [u2, e4]; exact h3
  ·right
   refine Prod.ext ?_ ?_
   ·rw [u1, e4, e5, e3, e, t1]
   ·rw [u2, e4, e5, t2]
theorem rcall_sim (hA : Alike l l' d m) {f g n n' : Nat} (ht : Sim P d m (rterm f l (n + 1)) (rterm g l' (n' + 1))) : Sim P d m (rcall f l n) (rcall g l' n') := fun s he h0 hp => by
 have ha : (rterm f l (n + 1) s).2.err = 0 := by
  apply Classical.byContradiction; intro hn
  simp only [rcall, rgot_errs hn, Bool.false_eq_true, if_false] at h0
  split at h0
  ·exact hn h0
  ·rw [rfail, if_neg hn] at h0; exact hn h0
 have hpa : (rterm f l (n + 1) s).2.pos ≤ m := by
  refine Nat.le_trans ?_ hp
  simp only [rcall]
  split
  ·exact Nat.le_trans (rgot_ge ..) (rterm_ge ..)
  ·simp only; split
   ·exact Nat.le_refl _
   ·rw [rfail_pos]; exact Nat.le_refl _
 simp only [rcall] at h0 hp ⊢
 rcases ht _ he ha hpa with ⟨hP, h3⟩ | e
 ·left
  refine ⟨hP, ?_⟩
  simp only [rgot_errs (err_3 h3), Bool.false_eq_true, if_false]
  split
  ·exact h3
  ·rw [rfail, if_neg (err_3 h3)]; exact h3
 ·have e2 : rgot l' kEq (rterm g l' (n' + 1) (sh d s)).2 = ((rgot l kEq (rterm f l (n + 1) s).2).1, sh d (rgot l kEq (rterm f l (n + 1) s).2).2) := by rw [e]; exact hA.got ha hpa (by decide)
  rw [e2, e]
  by_cases hg : (rgot l kEq (rterm f l (n + 1) s).2).1 = true
  ·rw [if_pos hg] at h0 hp
   rw [if_pos hg, if_pos hg]
   rcases ht _ (by rw [rgot_err]; exact ha) h0 hp with ⟨hP, h3⟩ | e5
   ·exact .inl ⟨hP, h3⟩
   ·right; rw [e5]
  ·rw [if_neg hg] at h0 hp
   rw [if_neg hg, if_neg hg]
   right
   by_cases hk : (rterm f l (n + 1) s).1.kind = 3
   ·rw [if_pos hk, if_pos hk]
   ·rw [if_neg hk] at h0
    exact absurd h0 (rfail_err (by decide) _)
theorem rcall_end {f n : Nat} (hf : 0 < f) (h : rend l s = true) : (rcall f l n s).2.err ≠ 0 := by
 have ht := rterm_end (n := n + 1) hf h
 simp only [rcall, rgot_errs ht, Bool.false_eq_true, if_false]
 split
 ·exact ht
 ·rw [rfail, if_neg ht]; exact ht
theorem rprim_end {f n : Nat} (hf : 0 < f) (h : rend l s = true) : (rprim (f + 1) l n s).2.err ≠ 0 := by
 have h1 : rnest l n s = s := by unfold rnest; rw [if_neg (by simp [h])]
 simp only [rprim, h1, rgot_end h, Bool.false_eq_true, if_false]
 exact rcall_end hf h
theorem rprim_sim (hA : Alike l l' d m) : ∀ (f f' n n' : Nat), n ≤ 65 → n' ≤ 65 → 67 ≤ f + n → 67 ≤ f' + n' → n ≤ n' → (n' ≠ n → P) → Sim P d m (rprim f l n) (rprim f' l' n')
 | 0, f', n, n', h1, h2, h3, h4, h5, hP => by omega
 | f + 1, 0, n, n', h1, h2, h3, h4, h5, hP => by omega
 | f + 1, g + 1, n, n', h1, h2, h3, h4, h5, hP => by
  intro s he h0 hp
  have hps : s.pos ≤ m := Nat.le_trans ((rprim_steps l (f + 1) n).ge s) hp
  cases hr : rend l s with
  | true => exact absurd h0 (rprim_end (by omega) hr)
  | false =>
   obtain ⟨_, hl, k, hk⟩ := rend_tok hr
   have hk' := hA.at_ hps hk
   have hl' := (List.getElem?_eq_some_iff.1 hk').1
   have hn : n ≤ 64 := by
    apply Classical.byContradiction; intro hn
    have e := nest_big he (show 64 < n by omega) hl
    rw [rprim_nerr (err_3 e), e] at h0; cases h0
   by_cases hn' : n' ≤ 64
   ·have e0 := rnest_no (l := l) (s := s) hn
    have e1 := rnest_no (l := l') (s := sh d s) hn'
    have gt := fun t => hA.gotK (t := t) he hps hk
    have ge := fun t => show (rgot l t s).2.err = 0 by rw [rgot_err]; exact he
    have ht := rterm_sim (P := P) hA f g (n + 1) (n' + 1) (by omega) (by omega) (by omega) (by omega) (by omega) (fun h => hP (by omega))
    have hq := rprim_sim hA f g (n + 1) (n' + 1) (by omega) (by omega) (by omega) (by omega) (by omega) (fun h => hP (by omega))
    simp only [rprim, e0] at h0 hp
    simp only [rprim, e0, e1, gt]
    by_cases c1 : (rgot l kTrue s).1 = true
    ·rw [if_pos c1, if_pos c1]; exact .inr rfl
    rw [if_neg c1] at h0 hp; rw [if_neg c1, if_neg c1]
    by_cases c2 : (rgot l kFail s).1 = true
    ·rw [if_pos c2, if_pos c2]; exact .inr rfl
    rw [if_neg c2] at h0 hp; rw [if_neg c2, if_neg c2]
    by_cases c3 : (rgot l kNot s).1 = true
    ·rw [if_pos c3] at h0 hp; rw [if_pos c3, if_pos c3]
     rcases hq _ (ge _) h0 hp with h | e
     ·exact .inl h
     ·right; rw [e]
    rw [if_neg c3] at h0 hp; rw [if_neg c3, if_neg c3]
    by_cases c4 : (rgot l kThrow s).1 = true
    ·rw [if_pos c4] at h0 hp; rw [if_pos c4, if_pos c4]
     rcases ht _ (ge _) h0 hp with h | e
     ·exact .inl h
     ·right; rw [e]
    rw [if_neg c4] at h0 hp; rw [if_neg c4, if_neg c4]
    by_cases c5 : (rgot l kTry s).1 = true
    ·rw [if_pos c5] at h0 hp; rw [if_pos c5, if_pos c5]
     exact rtry_sim hA hq (rprim_steps l f (n + 1)) (rprim_sticky l f (n + 1)) (rprim_sticky l' g (n' + 1)) _ (ge _) h0 hp
    rw [if_neg c5] at h0 hp; rw [if_neg c5, if_neg c5]
    by_cases c6 : (rgot l kOpen s).1 = true
    ·rw [if_pos c6] at h0 hp; rw [if_pos c6, if_pos c6]
     have n1 := (rneed_ok h0).1
     have p1 := Nat.le_trans (rneed_ge l kClose _) hp
     rcases rgoalW_sim hA hq (rprim_steps l f (n + 1)) (rprim_steps l' g (n' + 1)) _ (ge _) n1 p1 with ⟨hP, h3⟩ | e
     ·left
      refine ⟨hP, ?_⟩
      rw [rneed_err (err_3 h3)]; exact h3
     ·right
      rw [e, hA.need h0 p1]
    rw [if_neg c6] at h0 hp; rw [if_neg c6, if_neg c6]
    exact rcall_sim hA ht s he h0 hp
   ·left
    have e := nest_big (s := sh d s) he (show 64 < n' by omega) hl'
    exact ⟨hP (by omega), by rw [rprim_nerr (err_3 e), e]⟩
theorem rgoal_sim (hA : Alike l l' d m) {f f' n n' : Nat} (h1 : n ≤ 65) (h2 : n' ≤ 65) (h3 : 67 ≤ f + n) (h4 : 67 ≤ f' + n') (h5 : n ≤ n') (hP : n' ≠ n → P) : Sim P d m (rgoal f l n) (rgoal f' l' n') :=
 rgoalW_sim hA (rprim_sim hA f f' n n' h1 h2 h3 h4 h5 hP) (rprim_steps l f n) (rprim_steps l' f' n')
end
end Go.Aug

/- Plain: texts one behind the other, spread texts, texts in brackets. -/
namespace Go.Aug
set_option maxRecDepth 100000
set_option linter.unusedSimpArgs false
theorem app_list (a b : ByteArray) : (a ++ b).data.toList = a.data.toList ++ b.data.toList := by simp
/-- The five blanks. -/
def blanks : List ByteArray := [⟨#[32]⟩, ⟨#[10]⟩, ⟨#[32, 37, 32, 115, 111, 10]⟩, ⟨#[9, 9]⟩, ⟨#[13, 10]⟩]
/-- The goal of a text; the error's number. -/
def rgoalT (l : List Tok) (e : Int) : Gl × Int := if (rdone l (rgoal 66 l 1 ⟨0, e⟩).2).err ≠ 0 then (.mk 0 .none .none ⟨#[]⟩ [] [], (rdone l (rgoal 66 l 1 ⟨0, e⟩).2).err) else ((rgoal 66 l 1 ⟨0, e⟩).1, 0)
theorem rgoalT_ok {l : List Tok} {e : Int} {g : Gl} : rgoalT l e = (g, 0) ↔ e = 0 ∧ (rgoal 66 l 1 ⟨0, e⟩).1 = g ∧ (rgoal 66 l 1 ⟨0, e⟩).2.err = 0 ∧ l.length ≤ (rgoal 66 l 1 ⟨0, e⟩).2.pos := by
 by_cases he : e = 0
 ·subst he
  unfold rgoalT rdone
  generalize rgoal 66 l 1 ⟨0, 0⟩ = r
  obtain ⟨r1, p, e⟩ := r
  by_cases h : e = 0 ∧ p < l.length
  ·obtain ⟨rfl, h⟩ := h
   simp [h]
  ·simp only [h, if_false]
   by_cases he : e = 0
   ·subst he; simp at h; simp [h]
   ·simp [he]
 ·have h2 : (rgoal 66 l 1 ⟨0, e⟩).2 = ⟨0, e⟩ := rgoalW_err he
  have h3 : rdone l ⟨0, e⟩ = ⟨0, e⟩ := by rw [rdone, if_neg (fun h => he h.1)]
  unfold rgoalT
  rw [h2, h3]
  simp [he]
theorem tokOpen_is : TokIs tokOpen 40 [] := ⟨rfl, by decide, by decide, fun s p r hs _ => by
 unfold rWord
 have e := ba_extract (a := [40]) hs
 simp only [List.length_cons, List.length_nil, Nat.zero_add] at e
 rw [if_neg (by decide), if_neg (by decide), if_neg (fun h => absurd h.1 (by decide)), if_pos (by decide), e]
 rfl⟩
theorem tokClose_is : TokIs tokClose 41 [] := ⟨rfl, by decide, by decide, fun s p r hs _ => by
 unfold rWord
 have e := ba_extract (a := [41]) hs
 simp only [List.length_cons, List.length_nil, Nat.zero_add] at e
 rw [if_neg (by decide), if_neg (by decide), if_neg (fun h => absurd h.1 (by decide)), if_pos (by decide), e]
 rfl⟩
theorem join_one (kind : Int) (g : Gl) : joinOf kind [g] = g := by simp [joinOf]
theorem rprim_open {f n : Nat} {l : List Tok} {s s' : RdS} (hn : n ≤ 64) (h1 : (rgot l kTrue s).1 = false) (h2 : (rgot l kFail s).1 = false) (h3 : (rgot l kNot s).1 = false) (h4 : (rgot l kThrow s).1 = false) (h5 : (rgot l kTry s).1 = false) (h6 : rgot l kOpen s = (true, s')) :
  rprim (f + 1) l n s = ((rgoal f l (n + 1) s').1, rneed l kClose (rgoal f l (n + 1) s').2) := by
 simp only [rprim, rnest_no (l := l) (s := s) hn, h1, h2, h3, h4, h5, h6, Bool.false_eq_true, if_false, if_true, rgoal]
/-- A goal in brackets: too deep, too large, or the same. -/
theorem bracket_goal {s : ByteArray} {g : Gl} (h : rgoalT (rlex s).1 (rlex s).2 = (g, 0)) :
  (rgoalT (rlex (⟨#[40]⟩ ++ s ++ ⟨#[10, 41]⟩)).1 (rlex (⟨#[40]⟩ ++ s ++ ⟨#[10, 41]⟩)).2).2 = 3 ∨ (rgoalT (rlex (⟨#[40]⟩ ++ s ++ ⟨#[10, 41]⟩)).1 (rlex (⟨#[40]⟩ ++ s ++ ⟨#[10, 41]⟩)).2).2 = 4 ∨
  rgoalT (rlex (⟨#[40]⟩ ++ s ++ ⟨#[10, 41]⟩)).1 (rlex (⟨#[40]⟩ ++ s ++ ⟨#[10, 41]⟩)).2 = (g, 0) := by
 obtain ⟨he, hg, h0, hp⟩ := rgoalT_ok.1 h
 have hx : rlex s = ((rlex s).1, 0) := Prod.ext rfl he
 rw [he] at hg h0 hp
 generalize (rlex s).1 = l at hx hg h0 hp
 by_cases hs : (⟨#[40]⟩ ++ s ++ ⟨#[10, 41]⟩ : ByteArray).size ≤ 16384
 ·have hl : rlex (⟨#[40]⟩ ++ s ++ ⟨#[10, 41]⟩) = (tokOpen :: (l ++ [tokClose]), 0) := by
   rw [rlex_lexed]
   refine ⟨hs, ?_⟩
   rw [app_list, app_list, List.append_assoc]
   exact .tok (w := []) tokOpen_is (.inl rfl) ((rlex_lexed.1 hx).2.app (.tok (w := []) (rest := []) tokClose_is (.inl rfl) (.nil false)))
  rw [hl]
  have hle := (rgoal_steps l 66 1).le ⟨0, 0⟩ (Nat.zero_le _)
  have hpos : (rgoal 66 l 1 ⟨0, 0⟩).2 = ⟨l.length, 0⟩ := by
   generalize (rgoal 66 l 1 ⟨0, 0⟩).2 = r at h0 hp hle
   obtain ⟨p, e⟩ := r
   simp only at h0 hp hle
   subst h0; congr 1; omega
  generalize hl' : tokOpen :: (l ++ [tokClose]) = l'
  have hlen : l'.length = l.length + 2 := by rw [← hl']; simp
  have hA : Alike l l' 1 l.length := fun p hp => by
   subst hl'
   rw [List.getElem?_cons_succ]
   rcases Nat.lt_or_ge p l.length with h | h
   ·left; rw [List.getElem?_append_left h]
   ·right
    have : p = l.length := by omega
    subst this
    exact ⟨List.getElem?_eq_none (Nat.le_refl _), by rw [List.getElem?_append_right (Nat.le_refl _)]; simp⟩
  have hsim := rgoal_sim (P := True) hA (f := 66) (f' := 65) (n := 1) (n' := 2) (by decide) (by decide) (by decide) (by decide) (by decide) (fun _ => trivial) ⟨0, 0⟩ rfl h0 (by rw [hpos]; exact Nat.le_refl _)
  have a0 : l'.drop 0 = tokOpen :: (l ++ [tokClose]) := by rw [← hl']; rfl
  have aEnd : l'.drop (l.length + 1) = [tokClose] := by rw [← hl', List.drop_succ_cons, List.drop_left]
  have no : ∀ k, tokOpen.text ≠ k → (rgot l' k ⟨0, 0⟩).1 = false := fun k hk => by
   obtain ⟨q, e, _⟩ := Par.gotNo (l := l') (t := tokOpen) (m := k) (fun h => hk h.1) 0 a0
   rw [e]
  have yes : rgot l' kOpen ⟨0, 0⟩ = (true, ⟨1, 0⟩) := by rw [rgot, if_pos ((ris_at (m := kOpen) a0).2 ⟨rfl, .inr rfl⟩)]
  have ep : rprim 66 l' 1 ⟨0, 0⟩ = ((rgoal 65 l' 2 ⟨1, 0⟩).1, rneed l' kClose (rgoal 65 l' 2 ⟨1, 0⟩).2) := by
   exact rprim_open (f := 65) (by decide) (no kTrue (by decide)) (no kFail (by decide)) (no kNot (by decide)) (no kThrow (by decide)) (no kTry (by decide)) yes
  have er : rgoal 66 l' 1 ⟨0, 0⟩ = rjoined 6 kSemi (rjoined 5 kComma (rprim 66 l' 1) l') l' ⟨0, 0⟩ := rgoal_join (rprim_steps l' 66 1) rfl
  have e1 : sh 1 ⟨0, 0⟩ = ⟨1, 0⟩ := rfl
  rw [e1] at hsim
  rcases hsim with ⟨_, h3⟩ | e
  ·left
   have e3 := err_3 h3
   have x1 : (rprim 66 l' 1 ⟨0, 0⟩).2.err = 3 := by rw [ep, rneed_err e3]; exact h3
   have x2 : (rjoined 5 kComma (rprim 66 l' 1) l' ⟨0, 0⟩).2.err = 3 := by
    simp only [rjoined, rjoin_err (err_3 x1), x1]
   have x3 : (rgoal 66 l' 1 ⟨0, 0⟩).2.err = 3 := by
    rw [er]
    rw [rjoined]
    simp only [rjoin_err (err_3 x2), x2]
   unfold rgoalT
   have x4 : rdone l' (rgoal 66 l' 1 ⟨0, 0⟩).2 = (rgoal 66 l' 1 ⟨0, 0⟩).2 := by rw [rdone, if_neg (fun h => by rw [x3] at h; cases h.1)]
   rw [x4, x3]
   simp
  ·right; right
   have e2 : sh 1 (rgoal 66 l 1 ⟨0, 0⟩).2 = ⟨l.length + 1, 0⟩ := by rw [hpos]; rfl
   rw [e2] at e
   have x1 : rprim 66 l' 1 ⟨0, 0⟩ = (g, ⟨l.length + 2, 0⟩) := by
    rw [ep, e, (rneed_at (m := kClose) aEnd ⟨rfl, .inr rfl⟩).1, hg]
   have hend : rend l' ⟨l.length + 2, 0⟩ = true := by rw [rend_eq rfl, hlen]; simp
   have hno : ∀ t, (rgot l' t ⟨l.length + 2, 0⟩).1 = false := fun t => by rw [rgot_end hend]
   have x2 : rjoined 5 kComma (rprim 66 l' 1) l' ⟨0, 0⟩ = (g, ⟨l.length + 2, 0⟩) := by
    simp only [rjoined, x1, rjoin_no (hno kComma), join_one]
   have x3 : rgoal 66 l' 1 ⟨0, 0⟩ = (g, ⟨l.length + 2, 0⟩) := by
    rw [er, rjoined]
    simp only [x2, rjoin_no (hno kSemi), join_one]
   rw [rgoalT_ok, x3]
   exact ⟨rfl, rfl, rfl, by rw [hlen]; exact Nat.le_refl _⟩
 ·right; left
  have hl : rlex (⟨#[40]⟩ ++ s ++ ⟨#[10, 41]⟩) = ([], 4) := by unfold rlex; rw [if_pos (by omega)]
  rw [hl]
  have h2 : (rgoal 66 [] 1 ⟨0, 4⟩).2 = ⟨0, 4⟩ := rgoalW_err (by decide)
  unfold rgoalT
  rw [h2]
  rfl
end Go.Aug
