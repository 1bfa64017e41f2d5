/- Texts piece by piece: what the lexer's and the reader's plain forms make of them; conditions stand in each theorem. -/
import Derived.Test.YtckdiafomldepaaDoorPiecesOne
import Derived.Test.YtckdiafomldepaaDoorGrammarTwo
set_option linter.all false
set_option linter.unusedVariables false
set_option linter.unusedSimpArgs false
set_option linter.unusedSectionVars false

/- Plain: a text's tokens, wherever its bytes stand. -/
namespace Go.Aug
set_option maxRecDepth 100000
set_option linter.unusedSimpArgs false
/-- A token, by its bytes: wherever they stand, ahead of what ends them. -/
structure TokIs (t : Tok) (c : UInt8) (w : List UInt8) : Prop where
 text : t.text = ⟨⟨c :: w⟩⟩
 blank : isBlank c = false
 pct : ¬ (c.toNat : Int) = 37
 word : ∀ (s : ByteArray) (p : Nat) (r : List UInt8), s.data.toList.drop p = (c :: w) ++ r → (t.kind = 4 ∨ ∀ x, r.head? = some x → isWd x = false) → rWord s p c = (t, true)
theorem list_cut {s : ByteArray} {p e : Nat} {c : UInt8} (hp : s[p]? = some c) (h : p < e) (he : e ≤ s.size) : ∃ w, s.data.toList.drop p = (c :: w) ++ s.data.toList.drop e ∧ p + (w.length + 1) = e ∧ ∀ j, p < j → j < e → ∃ x ∈ w, s[j]? = some x := by
 have e1 : s.data.toList.drop p = (s.data.toList.drop p).take (e - p) ++ s.data.toList.drop e := by
  have : s.data.toList.drop e = (s.data.toList.drop p).drop (e - p) := by rw [List.drop_drop]; congr 1; omega
  rw [this, List.take_append_drop]
 have hl : s.data.toList.length = s.size := by simp
 have hlen : ((s.data.toList.drop p).take (e - p)).length = e - p := by rw [List.length_take, List.length_drop, hl]; omega
 have hat : ∀ j, p + j < e → ((s.data.toList.drop p).take (e - p))[j]? = s[p + j]? := by
  intro j hj
  rw [List.getElem?_take, if_pos (by omega), List.getElem?_drop, ba_list]
 generalize (s.data.toList.drop p).take (e - p) = u at e1 hlen hat
 cases u with
 | nil => simp at hlen; omega
 | cons x w =>
  have h0 := hat 0 (by omega)
  rw [Nat.add_zero, hp] at h0
  simp at h0
  subst h0
  refine ⟨w, e1, by simp at hlen; omega, fun j h1 h2 => ?_⟩
  have hj := hat (j - p) (by omega)
  rw [show p + (j - p) = j by omega] at hj
  obtain ⟨i, hi⟩ : ∃ i, j - p = i + 1 := ⟨j - p - 1, by omega⟩
  rw [hi, List.getElem?_cons_succ] at hj
  have hlt : i < w.length := by simp at hlen; omega
  exact ⟨w[i], List.getElem_mem hlt, by rw [← hj, List.getElem?_eq_getElem hlt]⟩
theorem runTo_cut {q : UInt8 → Bool} {s : ByteArray} {n p : Nat} {c : UInt8} (hp : s[p]? = some c) (hn : p < n) (hns : n ≤ s.size) (h0 : ∀ j, p < j → j < n → ∃ x, s[j]? = some x ∧ q x = true) :
  ∃ w, s.data.toList.drop p = (c :: w) ++ s.data.toList.drop (runTo q s s.size n) ∧ p + (w.length + 1) = runTo q s s.size n ∧ (∀ x ∈ w, q x = true) ∧ ∀ x, (s.data.toList.drop (runTo q s s.size n)).head? = some x → q x = false := by
 have hle := runTo_le (p := q) (s := s) s.size n hns
 have hall := runTo_all (q := q) (s := s) s.size n hns
 have hst := spanTo_stop (q := q) (s := s) _ n rfl
 rw [← spanTo_is] at hst
 generalize runTo q s s.size n = e at hle hall hst
 obtain ⟨w, h1, h2, _⟩ := list_cut hp (show p < e by omega) hle.2
 refine ⟨w, h1, h2, fun x hx => ?_, fun x hx => ?_⟩
 ·obtain ⟨i, hi⟩ := List.mem_iff_getElem?.1 hx
  have hil := (List.getElem?_eq_some_iff.1 hi).1
  have hs : s[p + (i + 1)]? = some x := by
   rw [ba_list, ← List.getElem?_drop, h1, List.getElem?_append_left (by simp; omega), List.getElem?_cons_succ]; exact hi
  rcases Nat.lt_or_ge (p + (i + 1)) n with h | h
  ·obtain ⟨y, hy, hq⟩ := h0 _ (by omega) h
   rw [hs] at hy; cases hy; exact hq
  ·obtain ⟨y, hy, hq⟩ := hall _ h (by omega)
   rw [hs] at hy; cases hy; exact hq
 ·rw [List.head?_drop] at hx
  exact hst x (by rw [ba_list]; exact hx)
theorem cut_extract {s : ByteArray} {p e : Nat} {c : UInt8} {w r : List UInt8} (h1 : s.data.toList.drop p = (c :: w) ++ r) (h2 : p + (w.length + 1) = e) : s.extract p e = ⟨⟨c :: w⟩⟩ := by
 subst h2; exact ba_extract (a := c :: w) h1
theorem tok_is {s : ByteArray} {p : Nat} {c : UInt8} (hp : s[p]? = some c) (hb : isBlank c = false) (h37 : ¬ (c.toNat : Int) = 37) (h : (rWord s p c).2 = true) :
  ∃ w r, s.data.toList.drop p = (c :: w) ++ r ∧ TokIs (rWord s p c).1 c w ∧ ((rWord s p c).1.kind = 4 ∨ ∀ x, r.head? = some x → isWd x = false) := by
 have hlt := bat_lt hp
 unfold rWord at h ⊢
 by_cases hl : isLet c = true
 ·rw [if_pos hl] at h ⊢
  simp only [wordAl] at h ⊢
  obtain ⟨k, hk⟩ : ∃ k, s.size = k + 1 := ⟨s.size - 1, by omega⟩
  have hst : runTo (fun c => isLet c || isDig c) s s.size p = runTo (fun c => isLet c || isDig c) s s.size (p + 1) := by
   rw [spanTo_is, spanTo_is, spanTo_step hp, if_pos (by rw [hl]; rfl)]
  obtain ⟨w, h1, h2, h3, h4⟩ := runTo_cut (q := fun c => isLet c || isDig c) hp (Nat.lt_succ_self p) hlt (fun j _ _ => by omega)
  rw [← hst] at h1 h2 h4
  clear hst
  generalize runTo (fun c => isLet c || isDig c) s s.size p = e0 at h h1 h2 h4 ⊢
  have ht := cut_extract h1 h2
  rw [← h2, show p + (w.length + 1) - p = w.length + 1 by omega] at h
  rw [ht]
  refine ⟨w, _, h1, ⟨rfl, hb, h37, fun s' p' r' hs hr => ?_⟩, .inr h4⟩
  have hr' : ∀ x, r'.head? = some x → isWd x = false := by
   rcases hr with hr | hr
   ·split at hr <;> cases hr
   ·exact hr
  unfold rWord
  rw [if_pos hl, wordAl]
  have hsz : w.length + 1 ≤ s'.size := by
   have := congrArg List.length hs
   simp only [List.length_drop, List.length_append, List.length_cons, Array.length_toList] at this
   show w.length + 1 ≤ s'.data.size
   omega
  have e := runTo_at (q := fun c => isLet c || isDig c) (s := s') (c :: w) r' s'.size p' hs (fun x hx => by
   rcases List.mem_cons.1 hx with rfl | hx
   ·simp [hl]
   ·exact h3 x hx) hr' (by simpa using hsz)
  rw [e, ba_extract hs]
  congr 1
  rw [show p' + (c :: w).length - p' = w.length + 1 by simp]
  exact h
 ·rw [if_neg hl] at h ⊢
  by_cases hd : isDig c = true ∨ (c.toNat : Int) = 45
  ·rw [if_pos hd] at h ⊢
   simp only [wordInt] at h ⊢
   obtain ⟨w, h1, h2, h3, h4⟩ := runTo_cut (q := isDig) hp (Nat.lt_succ_self p) hlt (fun j _ _ => by omega)
   generalize runTo isDig s s.size (p + 1) = e0 at h h1 h2 h4 ⊢
   have ht := cut_extract h1 h2
   rw [ht] at h ⊢
   obtain ⟨ha, hb2⟩ := Bool.and_eq_true_iff.1 h
   refine ⟨w, _, h1, ⟨rfl, hb, h37, fun s' p' r' hs hr => ?_⟩, .inr fun x hx => ?_⟩
   ·have hr' : ∀ x, r'.head? = some x → isWd x = false := by
     rcases hr with hr | hr
     ·cases hr
     ·exact hr
    have hsz := congrArg List.length hs
    simp only [List.length_drop, List.length_append, List.length_cons, Array.length_toList] at hsz
    have hsz' : s'.data.size = s'.size := rfl
    have e := runTo_at (q := isDig) (s := s') w r' s'.size (p' + 1) (ba_drop (a := [c]) hs) h3 (fun x hx => by
     have := hr' x hx
     simp only [isWd, Bool.or_eq_false_iff] at this
     exact this.2) (by omega)
    have e2 : p' + 1 + w.length = p' + (c :: w).length := by simp only [List.length_cons]; omega
    unfold rWord
    rw [if_neg hl, if_pos hd, wordInt, e, e2, ba_extract hs]
    congr 1
    rw [ha, Bool.true_and, Bool.or_eq_true]
    cases r' with
    | nil =>
     left
     simp only [List.length_nil] at hsz
     simp only [decide_eq_true_eq, List.length_cons]
     omega
    | cons x r' =>
     right
     have hx := (ba_at (ba_drop hs)).1
     have := hr' x rfl
     simp only [isWd, Bool.or_eq_false_iff] at this
     simp only [letAt, hx, this.1, Bool.not_false]
   ·have hq := h4 x hx
    rw [List.head?_drop, ← ba_list] at hx
    have hlt2 := bat_lt hx
    rcases Bool.or_eq_true_iff.1 hb2 with hh | hh
    ·have := of_decide_eq_true hh; omega
    ·simp only [letAt, hx, Bool.not_eq_true'] at hh
     simp only [isWd, hh, hq, Bool.or_false]
  ·rw [if_neg hd] at h ⊢
   by_cases h58 : (c.toNat : Int) = 58 ∧ p + 1 < s.size ∧ byteIs s (p + 1) 45 = true
   ·rw [if_pos h58] at h ⊢
    obtain ⟨x, hx⟩ := at_lt h58.2.1
    have hx45 : x = 45 := by
     have := h58.2.2
     simp only [byteIs, hx, decide_eq_true_eq] at this
     exact UInt8.toNat_inj.1 (by show x.toNat = 45; omega)
    have hc58 : c = 58 := UInt8.toNat_inj.1 (by show c.toNat = 58; omega)
    subst hx45; subst hc58
    obtain ⟨w, h1, h2, h3⟩ := list_cut hp (show p < p + 2 by omega) (by omega)
    have hw : w = [45] := by
     obtain ⟨y, hy, hs⟩ := h3 (p + 1) (by omega) (by omega)
     rw [hx] at hs; cases hs
     match w, h2, hy with
     | [z], _, hy => rw [List.mem_singleton.1 hy]
     | [], h2, _ => simp at h2
     | _ :: _ :: _, h2, _ => simp at h2
    subst hw
    refine ⟨[45], _, h1, ⟨rfl, hb, h37, fun s' p' r' hs _ => ?_⟩, .inl rfl⟩
    have hb1 := ba_at (ba_drop (a := [58]) hs)
    unfold rWord
    rw [if_neg hl, if_neg hd, if_pos ⟨by decide, hb1.2, by simp only [byteIs]; rw [show p' + 1 = p' + [(58 : UInt8)].length from rfl, hb1.1]; decide⟩]
   ·rw [if_neg h58] at h ⊢
    by_cases hm : kMarks.contains c.toNat = true
    ·rw [if_pos hm] at h ⊢
     obtain ⟨w, h1, h2, h3⟩ := list_cut hp (show p < p + 1 by omega) hlt
     have hw : w = [] := List.length_eq_zero_iff.1 (by omega)
     subst hw
     have ht : s.extract p (p + 1) = ⟨⟨[c]⟩⟩ := ba_extract (a := [c]) h1
     refine ⟨[], _, h1, ⟨ht, hb, h37, fun s' p' r' hs _ => ?_⟩, .inl rfl⟩
     have hc58 : ¬ (c.toNat : Int) = 58 := fun hc => by
      have : c.toNat = 58 := by omega
      rw [this] at hm; exact absurd hm (by decide)
     unfold rWord
     rw [if_neg hl, if_neg hd, if_neg (fun hh => hc58 hh.1), if_pos hm, ht]
     have := ba_extract (a := [c]) hs
     simp only [List.length_cons, List.length_nil, Nat.zero_add] at this
     rw [this]
    ·rw [if_neg hm] at h; cases h
/-- Bytes, and the tokens that they are; in a comment, or not. -/
inductive Lexed : Bool → List UInt8 → List Tok → Prop
 | nil (cm : Bool) : Lexed cm [] []
 | com {c : UInt8} {rest : List UInt8} {ts : List Tok} (h : Lexed (!decide ((c.toNat : Int) = 10)) rest ts) : Lexed true (c :: rest) ts
 | blank {c : UInt8} {rest : List UInt8} {ts : List Tok} (hb : isBlank c = true) (h : Lexed false rest ts) : Lexed false (c :: rest) ts
 | pct {c : UInt8} {rest : List UInt8} {ts : List Tok} (hb : isBlank c = false) (hc : (c.toNat : Int) = 37) (h : Lexed true rest ts) : Lexed false (c :: rest) ts
 | tok {c : UInt8} {w rest : List UInt8} {t : Tok} {ts : List Tok} (ht : TokIs t c w) (hr : t.kind = 4 ∨ ∀ x, rest.head? = some x → isWd x = false) (h : Lexed false rest ts) : Lexed false ((c :: w) ++ rest) (t :: ts)
theorem lexed_of {s : ByteArray} : ∀ (k p : Nat) (cm : Bool) (pl : List Int) (acc l : List Tok), s.size ≤ k + p → (rAll s k p cm pl acc).2 = (l, true) → ∃ ts, l = acc ++ ts ∧ Lexed cm (s.data.toList.drop p) ts
 | 0, p, cm, pl, acc, l, hk, h => by
  simp only [rAll, Prod.mk.injEq, and_true] at h
  refine ⟨[], by simp [h], ?_⟩
  rw [List.drop_eq_nil_iff.2 (by simp; omega)]
  exact .nil cm
 | k + 1, p, cm, pl, acc, l, hk, h => by
  simp only [rAll] at h
  cases hc : s[p]? with
  | none =>
   simp only [hc, Prod.mk.injEq, and_true] at h
   refine ⟨[], by simp [h], ?_⟩
   have : s.size ≤ p := by
    apply Classical.byContradiction; intro hn
    obtain ⟨x, hx⟩ := at_lt (s := s) (n := p) (by omega)
    rw [hx] at hc; cases hc
   rw [List.drop_eq_nil_iff.2 (by simpa using this)]
   exact .nil cm
  | some c =>
   simp only [hc] at h
   have hd : s.data.toList.drop p = c :: s.data.toList.drop (p + 1) := by
    rw [ba_list] at hc
    obtain ⟨hlt, he⟩ := List.getElem?_eq_some_iff.1 hc
    rw [List.drop_eq_getElem_cons hlt, he]
   by_cases h1 : cm = true
   ·subst h1
    rw [if_pos rfl] at h
    obtain ⟨ts, e, hx⟩ := lexed_of k (p + 1) _ pl acc l (by omega) h
    exact ⟨ts, e, by rw [hd]; exact .com hx⟩
   ·have h1' : cm = false := by simpa using h1
    subst h1'
    rw [if_neg h1] at h
    cases h2 : isBlank c with
    | true =>
     rw [h2, if_pos rfl] at h
     obtain ⟨ts, e, hx⟩ := lexed_of k (p + 1) _ pl acc l (by omega) h
     exact ⟨ts, e, by rw [hd]; exact .blank h2 hx⟩
    | false =>
     rw [h2, if_neg Bool.false_ne_true] at h
     by_cases h3 : (c.toNat : Int) = 37
     ·rw [if_pos h3] at h
      obtain ⟨ts, e, hx⟩ := lexed_of k (p + 1) _ pl acc l (by omega) h
      exact ⟨ts, e, by rw [hd]; exact .pct h2 h3 hx⟩
     ·rw [if_neg h3] at h
      by_cases h4 : (rWord s p c).2 = true
      ·rw [if_pos h4] at h
       obtain ⟨w, r, e1, e2, e3⟩ := tok_is hc h2 h3 h4
       have hsz := rWord_size hc h4
       obtain ⟨ts, e, hx⟩ := lexed_of k _ _ _ _ l (by omega) h
       refine ⟨(rWord s p c).1 :: ts, by rw [e]; simp, ?_⟩
       have hr : s.data.toList.drop (p + (rWord s p c).1.text.size) = r := by
        have : (rWord s p c).1.text.size = (c :: w).length := by rw [e2.text]; rfl
        rw [this]; exact ba_drop e1
       rw [hr] at hx
       rw [e1]
       exact .tok e2 e3 hx
      ·rw [if_neg h4] at h; cases h
theorem Lexed.to {cm : Bool} {rest : List UInt8} {ts : List Tok} (h : Lexed cm rest ts) : ∀ (s : ByteArray) (p : Nat), s.data.toList.drop p = rest → ∀ (k : Nat), rest.length ≤ k → ∀ (pl : List Int) (acc : List Tok), (rAll s k p cm pl acc).2 = (acc ++ ts, true) := by
 induction h with
 | nil cm =>
  intro s p hs k _ pl acc
  cases k with
  | zero => simp [rAll]
  | succ k => simp [rAll, ba_end hs]
 | com _ ih =>
  intro s p hs k hk pl acc
  cases k with
  | zero => simp at hk
  | succ k =>
   simp only [rAll, (ba_at hs).1, if_true]
   exact ih s (p + 1) (ba_drop (a := [_]) hs) k (by simpa using hk) pl acc
 | blank hb _ ih =>
  intro s p hs k hk pl acc
  cases k with
  | zero => simp at hk
  | succ k =>
   simp only [rAll, (ba_at hs).1, Bool.false_eq_true, if_false, hb, if_true]
   exact ih s (p + 1) (ba_drop (a := [_]) hs) k (by simpa using hk) pl acc
 | pct hb hc _ ih =>
  intro s p hs k hk pl acc
  cases k with
  | zero => simp at hk
  | succ k =>
   simp only [rAll, (ba_at hs).1, Bool.false_eq_true, if_false, hb, hc, if_true]
   exact ih s (p + 1) (ba_drop (a := [_]) hs) k (by simpa using hk) pl acc
 | @tok c w rest t ts ht hr _ ih =>
  intro s p hs k hk pl acc
  cases k with
  | zero => simp at hk
  | succ k =>
   have hsz : t.text.size = (c :: w).length := by rw [ht.text]; rfl
   simp only [rAll, (ba_at hs).1, Bool.false_eq_true, if_false, ht.blank, ht.pct, ht.word s p rest hs hr, if_true, hsz]
   rw [ih s _ (ba_drop hs) k (by simp only [List.length_append, List.length_cons] at hk; omega)]
   simp
theorem rlex_lexed {s : ByteArray} {ts : List Tok} : rlex s = (ts, 0) ↔ s.size ≤ 16384 ∧ Lexed false s.data.toList ts := by
 constructor
 ·intro h
  unfold rlex at h
  split at h
  ·cases h
  ·rename_i hs
   split at h
   ·rename_i ht
    obtain ⟨rfl, _⟩ := Prod.mk.inj h
    obtain ⟨ts, e, hx⟩ := lexed_of (s := s) s.size 0 false [] [] _ (by omega) (Prod.ext rfl ht)
    refine ⟨by omega, ?_⟩
    have e' : (rAll s s.size 0 false [] []).2.1 = [] ++ ts := e
    rw [e']; exact hx
   ·cases h
 ·rintro ⟨hs, h⟩
  have := h.to s 0 rfl s.size (by simp) [] []
  unfold rlex
  rw [if_neg (by omega), this]
  simp
/-- The tokens of a text whose lexing ends well. -/
theorem Lexed.toks {cm : Bool} {a : List UInt8} {ts : List Tok} (h : Lexed cm a ts) : ∀ t ∈ ts, ∃ c w, TokIs t c w := by
 induction h with
 | nil => intro _ h; cases h
 | com _ ih => exact ih
 | blank _ _ ih => exact ih
 | pct _ _ _ ih => exact ih
 | tok ht _ _ ih =>
  intro t h
  rcases List.mem_cons.1 h with rfl | h
  ·exact ⟨_, _, ht⟩
  ·exact ih t h
/-- Tokens, each with blanks behind. -/
def spread (b : List UInt8) : List Tok → List UInt8
 | [] => []
 | t :: ts => t.text.data.toList ++ (b ++ spread b ts)
theorem Lexed.spread {b : List UInt8} (hb : ∀ {rest : List UInt8} {ts : List Tok}, Lexed false rest ts → Lexed false (b ++ rest) ts) (h0 : ∀ r : List UInt8, ∃ x, (b ++ r).head? = some x ∧ isWd x = false) :
  ∀ (ts : List Tok), (∀ t ∈ ts, ∃ c w, TokIs t c w) → Lexed false (spread b ts) ts
 | [], _ => .nil false
 | t :: ts, h => by
  obtain ⟨c, w, ht⟩ := h t (.head _)
  have e : t.text.data.toList = c :: w := by rw [ht.text]
  rw [Go.Aug.spread, e]
  refine .tok ht (.inr fun x hx => ?_) (hb (Lexed.spread hb h0 ts fun t h' => h t (.tail _ h')))
  obtain ⟨y, hy, hw⟩ := h0 (Go.Aug.spread b ts)
  rw [hy] at hx; cases hx; exact hw

end Go.Aug
