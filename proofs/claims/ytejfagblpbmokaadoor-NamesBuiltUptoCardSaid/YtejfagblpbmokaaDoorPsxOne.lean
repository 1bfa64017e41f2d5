/- Parts of a proof: contracts of functions; conditions stand in each contract. -/
import Derived.Test.YtejfagblpbmokaaDoorParserThree
set_option linter.all false
set_option linter.unusedVariables false
set_option linter.unusedSimpArgs false
set_option linter.unusedSectionVars false

/- Plain: the tokens of bytes, piece by piece. -/
namespace Go.Aug
open Go.Proofs
set_option maxRecDepth 100000
set_option linter.unusedSimpArgs false
theorem ba_at {s : ByteArray} {p : Nat} {c : UInt8} {rest : List UInt8} (h : s.data.toList.drop p = c :: rest) : s[p]? = some c ∧ p < s.size := by
  have h1 : s.data.toList[p]? = some c := by rw [← List.head?_drop, h]; rfl
  have hlt : p < s.size := by have := (List.getElem?_eq_some_iff.1 h1).1; simpa using this
  refine ⟨?_, hlt⟩
  rw [getElem?_pos s p hlt]
  have : s.data.toList[p]'(by simpa using hlt) = c := (List.getElem?_eq_some_iff.1 h1).2
  rw [← this]; rfl
theorem ba_end {s : ByteArray} {p : Nat} (h : s.data.toList.drop p = []) : s[p]? = none := by
  have : s.data.toList.length ≤ p := List.drop_eq_nil_iff.1 h
  exact getElem?_neg s p (by simp at this; show ¬ p < s.size; exact Nat.not_lt.2 this)
theorem ba_drop {s : ByteArray} {p : Nat} {a b : List UInt8} (h : s.data.toList.drop p = a ++ b) : s.data.toList.drop (p + a.length) = b := by
  rw [← List.drop_drop, h, List.drop_left]
theorem ba_extract {s : ByteArray} {p : Nat} {a b : List UInt8} (h : s.data.toList.drop p = a ++ b) : s.extract p (p + a.length) = ⟨⟨a⟩⟩ := by
  apply ByteArray.ext
  rw [ByteArray.data_extract]
  apply Array.ext'
  rw [Array.toList_extract, List.extract_eq_drop_take, h]
  have : p + a.length - p = a.length := by omega
  rw [this, List.take_left]
theorem runTo_at {q : UInt8 → Bool} {s : ByteArray} : ∀ (w rest : List UInt8) (k n : Nat), s.data.toList.drop n = w ++ rest → (∀ c ∈ w, q c = true) → (∀ c, rest.head? = some c → q c = false) → w.length ≤ k → runTo q s k n = n + w.length
  | [], rest, k, n, h, _, hr, _ => by
    cases k with
    | zero => rfl
    | succ k =>
      cases rest with
      | nil => simp only [runTo, ba_end h]; rfl
      | cons c rest => simp only [runTo, (ba_at h).1, hr c rfl]; rfl
  | c :: w, rest, k, n, h, hw, hr, hk => by
    cases k with
    | zero => simp at hk
    | succ k =>
      simp only [runTo, (ba_at h).1, hw c (.head _), if_true]
      rw [runTo_at w rest k (n + 1) (ba_drop (a := [c]) h) (fun x hx => hw x (.tail _ hx)) hr (by simpa using hk)]
      simp only [List.length_cons]; omega
/-- These bytes, where they stand at the end of a text, are these tokens. -/
def LexTo (rest : List UInt8) (ts : List Tok) : Prop := ∀ (s : ByteArray) (p : Nat), s.data.toList.drop p = rest → ∀ (k : Nat), rest.length ≤ k → ∀ (pl : List Int) (acc : List Tok), (rAll s k p false pl acc).2 = (acc ++ ts, true)
theorem LexTo.nil : LexTo [] [] := fun s p h k _ pl acc => by
  cases k with
  | zero => simp [rAll]
  | succ k => simp [rAll, ba_end h]
theorem LexTo.blank {c : UInt8} {rest : List UInt8} {ts : List Tok} (hc : isBlank c = true) (h : LexTo rest ts) : LexTo (c :: rest) ts := fun s p hs k hk pl acc => by
  cases k with
  | zero => simp at hk
  | succ k =>
    simp only [rAll, (ba_at hs).1, Bool.false_eq_true, if_false, hc, if_true]
    exact h s (p + 1) (ba_drop (a := [c]) hs) k (by simpa using hk) pl acc
theorem LexTo.tok {c : UInt8} {w rest : List UInt8} {ts : List Tok} {t : Tok} (hb : isBlank c = false) (hc : ¬ (c.toNat : Int) = 37) (ht : t.text.size = w.length + 1)
    (hw : ∀ (s : ByteArray) (p : Nat), s.data.toList.drop p = (c :: w) ++ rest → rWord s p c = (t, true)) (h : LexTo rest ts) : LexTo ((c :: w) ++ rest) (t :: ts) := fun s p hs k hk pl acc => by
  cases k with
  | zero => simp at hk
  | succ k =>
    simp only [rAll, (ba_at hs).1, Bool.false_eq_true, if_false, hb, hc, hw s p hs, if_true, ht]
    rw [h s (p + (w.length + 1)) (ba_drop (a := c :: w) hs) k (by simp only [List.length_cons, List.length_append] at hk; omega)]
    simp
def isWd (c : UInt8) : Bool := isLet c || isDig c
theorem LexTo.mark {c : UInt8} {rest : List UInt8} {ts : List Tok} (hb : isBlank c = false) (h37 : ¬ (c.toNat : Int) = 37) (hl : isLet c = false) (hd : isDig c = false) (h45 : ¬ (c.toNat : Int) = 45) (h58 : ¬ (c.toNat : Int) = 58) (hm : kMarks.contains c.toNat = true)
    (h : LexTo rest ts) : LexTo (c :: rest) (⟨4, ⟨#[c]⟩, 0⟩ :: ts) :=
  LexTo.tok (w := []) hb h37 rfl (fun s p hs => by
    unfold rWord
    have e := ba_extract (a := [c]) hs
    simp only [List.length_cons, List.length_nil, Nat.zero_add] at e
    rw [if_neg (by rw [hl]; exact Bool.false_ne_true), if_neg (by rw [hd]; intro hh; rcases hh with hh | hh; cases hh; exact h45 hh), if_neg (fun hh => h58 hh.1), if_pos hm, e]) h
theorem LexTo.word {c : UInt8} {w rest : List UInt8} {ts : List Tok} (hc : isLet c = true) (hw : ∀ x ∈ w, isWd x = true) (hn : w.length + 1 ≤ 32) (hr : ∀ x, rest.head? = some x → isWd x = false)
    (h : LexTo rest ts) : LexTo ((c :: w) ++ rest) (⟨if isSmall c = true then 1 else 2, ⟨⟨c :: w⟩⟩, 0⟩ :: ts) := by
  have h3 : 65 ≤ (c.toNat : Int) := by
    simp only [isLet, isSmall, Bool.or_eq_true, Bool.and_eq_true, decide_eq_true_eq] at hc
    omega
  refine LexTo.tok (by simp [isBlank]; omega) (by omega) (by show (c :: w).length = _; rfl) (fun s p hs => ?_) h
  unfold rWord
  rw [if_pos hc, wordAl]
  have hsz : w.length + 1 ≤ s.size := by
    have := congrArg List.length hs
    simp only [List.length_drop, List.length_append, List.length_cons, Array.length_toList] at this
    show w.length + 1 ≤ s.data.size
    omega
  have e := runTo_at (q := fun c => isLet c || isDig c) (s := s) (c :: w) rest s.size p hs (fun x hx => by
    rcases List.mem_cons.1 hx with rfl | hx
    · simp [hc]
    · exact hw x hx) hr (by simpa using hsz)
  rw [e, ba_extract hs]
  congr 1
  simp only [List.length_cons, decide_eq_true_eq]
  omega
theorem rlex_of {s : ByteArray} {ts : List Tok} (hs : s.size ≤ 16384) (h : LexTo s.data.toList ts) : rlex s = (ts, 0) := by
  have := h s 0 rfl s.size (by simp) [] []
  unfold rlex
  rw [if_neg (by omega), this]
  simp
/-- What a name's token is. -/
def IsName (t : ByteArray) : Prop := ∃ c w, t.data.toList = c :: w ∧ isSmall c = true ∧ (∀ x ∈ w, isWd x = true) ∧ w.length + 1 ≤ 32
theorem runTo_all {q : UInt8 → Bool} {s : ByteArray} : ∀ (k n : Nat), n ≤ s.size → ∀ j, n ≤ j → j < runTo q s k n → ∃ c, s[j]? = some c ∧ q c = true
  | 0, n, _, j, h1, h2 => by simp only [runTo] at h2; omega
  | k + 1, n, hn, j, h1, h2 => by
    simp only [runTo] at h2
    split at h2
    · rename_i c hc
      split at h2
      · rename_i hq
        rcases Nat.lt_or_ge n j with h | h
        · have hlt : n < s.size := by
            apply Classical.byContradiction; intro hn
            simp [hn] at hc
          exact runTo_all k (n + 1) hlt j h h2
        · have : j = n := by omega
          subst this; exact ⟨c, hc, hq⟩
      · omega
    · omega
theorem rWord_name {s : ByteArray} {p : Nat} {c : UInt8} (hp : s[p]? = some c) (h : (rWord s p c).2 = true) (h1 : (rWord s p c).1.kind = 1) : IsName (rWord s p c).1.text := by
  have hlt : p < s.size := by
    apply Classical.byContradiction; intro hn
    simp [hn] at hp
  unfold rWord at h h1 ⊢
  split at h
  · rename_i hl
    rw [if_pos hl] at h1 ⊢
    simp only [wordAl] at h h1 ⊢
    have hsm : isSmall c = true := by
      apply Classical.byContradiction; intro hn
      rw [if_neg hn] at h1; cases h1
    have hr := runTo_le (p := fun c => isLet c || isDig c) (s := s) s.size p (Nat.le_of_lt hlt)
    have hall := runTo_all (q := fun c => isLet c || isDig c) (s := s) s.size p (Nat.le_of_lt hlt)
    have hge : p + 1 ≤ runTo (fun c => isLet c || isDig c) s s.size p := by
      obtain ⟨k, hk⟩ : ∃ k, s.size = k + 1 := ⟨s.size - 1, by omega⟩
      rw [hk]
      simp only [runTo, hp, hl, Bool.true_or, if_true]
      exact (runTo_le k (p + 1) hlt).1
    generalize runTo (fun c => isLet c || isDig c) s s.size p = r at h hr hall hge
    have hle := of_decide_eq_true h
    have e : (s.extract p r).data.toList = (s.data.toList.drop p).take (r - p) := by
      rw [ByteArray.data_extract, Array.toList_extract, List.extract_eq_drop_take]
    have hget : ∀ j, p + j < r → ((s.data.toList.drop p).take (r - p))[j]? = s[p + j]? := by
      intro j hj
      have hjs : p + j < s.size := by omega
      rw [List.getElem?_take, if_pos (by omega), List.getElem?_drop, getElem?_pos s (p + j) hjs, List.getElem?_eq_getElem (by simpa using hjs)]
      rfl
    have hlen : ((s.data.toList.drop p).take (r - p)).length = r - p := by
      have : s.data.toList.length = s.size := by simp
      rw [List.length_take, List.length_drop, this]; omega
    rw [← e] at hget hlen
    unfold IsName
    generalize (s.extract p r).data.toList = w at hget hlen ⊢
    cases w with
    | nil => simp at hlen; omega
    | cons x w =>
      have h0 := hget 0 (by omega)
      rw [Nat.add_zero, hp] at h0
      simp at h0
      subst h0
      refine ⟨x, w, rfl, hsm, fun y hy => ?_, by simp at hlen; omega⟩
      obtain ⟨j, hj⟩ := List.mem_iff_getElem?.1 hy
      have hjl := (List.getElem?_eq_some_iff.1 hj).1
      have hj2 := hget (j + 1) (by simp at hlen; omega)
      obtain ⟨z, hz, hq⟩ := hall (p + (j + 1)) (by omega) (by simp at hlen; omega)
      rw [hz] at hj2
      simp [hj] at hj2
      subst hj2
      exact hq
  · rename_i hl
    rw [if_neg hl] at h1
    exfalso
    split at h1
    · cases h1
    · split at h1
      · cases h1
      · split at h1 <;> cases h1
theorem rAll_name {s : ByteArray} : ∀ (k p : Nat) (cm : Bool) (pl : List Int) (ts : List Tok), (∀ t ∈ ts, t.kind = 1 → IsName t.text) → ∀ t ∈ (rAll s k p cm pl ts).2.1, t.kind = 1 → IsName t.text
  | 0, p, cm, pl, ts, h => h
  | k + 1, p, cm, pl, ts, h => by
    simp only [rAll]
    split
    · exact h
    · rename_i c hc
      repeat' split
      · exact rAll_name k _ _ _ _ h
      · exact rAll_name k _ _ _ _ h
      · exact rAll_name k _ _ _ _ h
      · rename_i hw
        refine rAll_name k _ _ _ _ fun t ht => ?_
        rcases List.mem_append.1 ht with ht | ht
        · exact h t ht
        · rw [List.mem_singleton.1 ht]; exact rWord_name hc hw
      · exact h
theorem rlex_name (s : ByteArray) : ∀ t ∈ (rlex s).1, t.kind = 1 → IsName t.text := by
  unfold rlex
  repeat' split
  · intro _ h; cases h
  · exact rAll_name _ _ _ _ _ (fun _ h => by cases h)
  · intro _ h; cases h
end Go.Aug

/- Plain: what the reader reads of tokens, piece by piece. -/
namespace Go.Aug
open Go.Proofs
set_option maxRecDepth 100000
set_option linter.unusedSimpArgs false
/-- Where a is what is left, f reads x, and b is left. -/
def Par {α : Type} (l : List Tok) (f : RdS → α × RdS) (a : List Tok) (x : α) (b : List Tok) : Prop := ∀ p, l.drop p = a → ∃ q, f ⟨p, 0⟩ = (x, ⟨q, 0⟩) ∧ l.drop q = b
theorem tok_at {l b : List Tok} {p : Nat} {t : Tok} (h : l.drop p = t :: b) : l[p]? = some t ∧ p < l.length ∧ rend l ⟨p, 0⟩ = false ∧ l.drop (p + 1) = b := by
  have h1 : l[p]? = some t := by rw [← List.head?_drop, h]; rfl
  have h2 := (List.getElem?_eq_some_iff.1 h1).1
  refine ⟨h1, h2, by simp [rend]; omega, ?_⟩
  rw [← List.drop_drop, h]; rfl
theorem tok_end {l : List Tok} {p : Nat} (h : l.drop p = []) : rend l ⟨p, 0⟩ = true := by
  have := List.drop_eq_nil_iff.1 h
  simp [rend]; omega
/-- A word or mark that stands next. -/
def Stands (t : Tok) (m : ByteArray) : Prop := t.text = m ∧ (t.kind = 1 ∨ t.kind = 4)
theorem ris_at {l b : List Tok} {p : Nat} {t : Tok} {m : ByteArray} (h : l.drop p = t :: b) : ris l m ⟨p, 0⟩ = true ↔ Stands t m := by
  obtain ⟨h1, h2, h3, h4⟩ := tok_at h
  simp [ris, h3, h1, Stands]
theorem Par.got {l b : List Tok} {t : Tok} {m : ByteArray} (h : Stands t m) : Par l (rgot l m) (t :: b) true b := fun p hp => by
  refine ⟨p + 1, ?_, (tok_at hp).2.2.2⟩
  rw [rgot, if_pos ((ris_at hp).2 h)]
theorem Par.gotNo {l b : List Tok} {t : Tok} {m : ByteArray} (h : ¬ Stands t m) : Par l (rgot l m) (t :: b) false (t :: b) := fun p hp => by
  refine ⟨p, ?_, hp⟩
  rw [rgot, if_neg (fun hh => h ((ris_at hp).1 hh))]
theorem rneed_at {l b : List Tok} {t : Tok} {m : ByteArray} {p : Nat} (hp : l.drop p = t :: b) (h : Stands t m) : rneed l m ⟨p, 0⟩ = ⟨p + 1, 0⟩ ∧ l.drop (p + 1) = b := by
  refine ⟨?_, (tok_at hp).2.2.2⟩
  rw [rneed, if_pos rfl, rgot, if_pos ((ris_at hp).2 h)]
  rfl
theorem Par.word {l b : List Tok} {t : Tok} {k : Int} (h1 : t.kind = k) (h2 : ¬ (k = 1 ∧ isReserved t.text = true)) : Par l (rword l k) (t :: b) t.text b := fun p hp => by
  obtain ⟨a1, a2, a3, a4⟩ := tok_at hp
  refine ⟨p + 1, ?_, a4⟩
  simp only [rword, a3, Bool.false_eq_true, if_false, a1]
  rw [if_neg (by rintro (h | h); exact h h1; exact h2 h)]
theorem rnest_no {l : List Tok} {n : Nat} {s : RdS} (h : n ≤ 64) : rnest l n s = s := by rw [rnest, if_neg (by omega)]
def tokOpen : Tok := ⟨4, ⟨#[40]⟩, 0⟩
def tokClose : Tok := ⟨4, ⟨#[41]⟩, 0⟩
def tokComma : Tok := ⟨4, ⟨#[44]⟩, 0⟩
def tokDot : Tok := ⟨4, ⟨#[46]⟩, 0⟩
theorem open_no {t : Tok} (h : t.text ≠ ⟨#[40]⟩) : ¬ Stands t ⟨#[40]⟩ := fun hh => h hh.1
/-- Behind a row's first thing. -/
inductive Tail {α : Type} (l : List Tok) (f : RdS → α × RdS) : List Tok → List α → List Tok → Prop
  | close (b : List Tok) : Tail l f (tokClose :: b) [] b
  | comma {a c b : List Tok} {x : α} {ys : List α} (h : Par l f a x c) (r : Tail l f c ys b) : Tail l f (tokComma :: a) (x :: ys) b
theorem rmore_close {l b : List Tok} {p n : Nat} (hp : l.drop p = tokClose :: b) (hn : n ≠ 0) : rmore l n ⟨p, 0⟩ = (false, ⟨p + 1, 0⟩) ∧ l.drop (p + 1) = b := by
  have h : Stands tokClose ⟨#[41]⟩ := ⟨rfl, .inr rfl⟩
  refine ⟨?_, (tok_at hp).2.2.2⟩
  have hg : rgot l ⟨#[41]⟩ ⟨p, 0⟩ = (true, ⟨p + 1, 0⟩) := by rw [rgot, if_pos ((ris_at hp).2 h)]
  rw [rmore, if_neg hn, hg, if_pos (.inl rfl)]
theorem rmore_comma {l a : List Tok} {p n : Nat} (hp : l.drop p = tokComma :: a) (hn : n ≠ 0) (h8 : n ≠ 8) : rmore l n ⟨p, 0⟩ = (true, ⟨p + 1, 0⟩) ∧ l.drop (p + 1) = a := by
  have h : Stands tokComma ⟨#[44]⟩ := ⟨rfl, .inr rfl⟩
  have hno : ¬ Stands tokComma ⟨#[41]⟩ := fun hh => absurd hh.1 (by decide)
  have hg : rgot l ⟨#[41]⟩ ⟨p, 0⟩ = (false, ⟨p, 0⟩) := by rw [rgot, if_neg (fun hh => hno ((ris_at hp).1 hh))]
  have hnd := rneed_at hp h
  refine ⟨?_, hnd.2⟩
  rw [rmore, if_neg hn, hg, if_neg (by simp), hnd.1, rmoreFin, if_neg (by omega)]
  rfl
theorem rmore_open {l a : List Tok} {p : Nat} (hp : l.drop p = tokOpen :: a) : rmore l 0 ⟨p, 0⟩ = (true, ⟨p + 1, 0⟩) ∧ l.drop (p + 1) = a := by
  have h : Stands tokOpen ⟨#[40]⟩ := ⟨rfl, .inr rfl⟩
  have hg : rgot l ⟨#[40]⟩ ⟨p, 0⟩ = (true, ⟨p + 1, 0⟩) := by rw [rgot, if_pos ((ris_at hp).2 h)]
  refine ⟨?_, (tok_at hp).2.2.2⟩
  rw [rmore, if_pos rfl, hg, if_pos rfl, rmoreFin, if_neg (by omega)]
  rfl
theorem rargs_tail {α : Type} {l : List Tok} {f : RdS → α × RdS} {a b : List Tok} {ys : List α} (h : Tail l f a ys b) : ∀ (xs : List α) (k p : Nat), l.drop p = a → xs ≠ [] → xs.length + ys.length ≤ 8 → ys.length + 1 ≤ k →
    ∃ q, rargs f l k xs ⟨p, 0⟩ = (xs ++ ys, ⟨q, 0⟩) ∧ l.drop q = b := by
  induction h with
  | close b =>
    intro xs k p hp hx _ hk
    cases k with
    | zero => simp at hk
    | succ k =>
      obtain ⟨h1, h2⟩ := rmore_close hp (n := xs.length) (by simp [hx])
      refine ⟨p + 1, ?_, h2⟩
      simp only [rargs, if_true, h1, Bool.false_eq_true, if_false, List.append_nil]
  | @comma a c b x ys hf _ ih =>
    intro xs k p hp hx h8 hk
    cases k with
    | zero => simp at hk
    | succ k =>
      simp only [List.length_cons] at h8 hk
      obtain ⟨h1, h2⟩ := rmore_comma hp (n := xs.length) (by simp [hx]) (by omega)
      obtain ⟨q, h3, h4⟩ := hf _ h2
      obtain ⟨r, h5, h6⟩ := ih (xs ++ [x]) k q h4 (by simp) (by simp only [List.length_append, List.length_cons, List.length_nil]; omega) (by omega)
      refine ⟨r, ?_, h6⟩
      simp only [rargs, if_true, h1, h3, h5]
      simp
theorem Par.argsNo {α : Type} {l b : List Tok} {f : RdS → α × RdS} {t : Tok} (h : ¬ Stands t ⟨#[40]⟩) : Par l (rargs f l 10 []) (t :: b) [] (t :: b) := fun p hp => by
  refine ⟨p, ?_, hp⟩
  have hg : rgot l ⟨#[40]⟩ ⟨p, 0⟩ = (false, ⟨p, 0⟩) := by rw [rgot, if_neg (fun hh => h ((ris_at hp).1 hh))]
  simp only [rargs, if_true, rmore, List.length_nil, hg, Bool.false_eq_true, if_false]
theorem Par.args {α : Type} {l a c b : List Tok} {f : RdS → α × RdS} {x : α} {ys : List α} (hf : Par l f a x c) (ht : Tail l f c ys b) (h8 : ys.length ≤ 7) : Par l (rargs f l 10 []) (tokOpen :: a) (x :: ys) b := fun p hp => by
  obtain ⟨h1, h2⟩ := rmore_open hp
  obtain ⟨q, h3, h4⟩ := hf _ h2
  obtain ⟨r, h5, h6⟩ := rargs_tail ht [x] 9 q h4 (by simp) (by simp only [List.length_cons, List.length_nil]; omega) (by omega)
  refine ⟨r, ?_, h6⟩
  have e : rargs f l 10 [] ⟨p, 0⟩ = rargs f l 9 [x] ⟨q, 0⟩ := by
    rw [rargs, if_pos rfl]
    simp only [List.length_nil, h1, if_true, h3, List.nil_append]
  rw [e, h5]; rfl
/-- A row of like things. -/
def rowTail (u : Tok) : Nat → List Tok → List Tok
  | 0, b => tokClose :: b
  | n + 1, b => tokComma :: u :: rowTail u n b
def rowToks (u : Tok) : Nat → List Tok → List Tok
  | 0, b => b
  | n + 1, b => tokOpen :: u :: rowTail u n b
theorem Tail.like {α : Type} {l : List Tok} {f : RdS → α × RdS} {u : Tok} {x : α} (hf : ∀ b, Par l f (u :: b) x b) (b : List Tok) : ∀ n, Tail l f (rowTail u n b) (List.replicate n x) b
  | 0 => .close b
  | n + 1 => .comma (hf _) (Tail.like hf b n)
theorem Par.row {α : Type} {l b : List Tok} {f : RdS → α × RdS} {u t : Tok} {x : α} (hf : ∀ b, Par l f (u :: b) x b) (h : ¬ Stands t ⟨#[40]⟩) : ∀ (n : Nat), n ≤ 8 → Par l (rargs f l 10 []) (rowToks u n (t :: b)) (List.replicate n x) (t :: b)
  | 0, _ => Par.argsNo h
  | n + 1, hn => Par.args (hf _) (Tail.like hf _ n) (by rw [List.length_replicate]; omega)
def tokW (k : Int) (w : ByteArray) : Tok := ⟨k, w, 0⟩
theorem Par.tyInt (l b : List Tok) : Par l (rtype 66 l 1) (tokW 1 kInt :: b) (.mk false kInt []) b := fun p hp => by
  obtain ⟨a1, a2, a3, a4⟩ := tok_at hp
  obtain ⟨q, h1, h2⟩ := Par.got (l := l) (b := b) (t := tokW 1 kInt) (m := kInt) ⟨rfl, .inl rfl⟩ p hp
  refine ⟨q, ?_, h2⟩
  have hv : varTok l ⟨p, 0⟩ = none := by
    simp only [varTok, a3, Bool.false_eq_true, if_false, a1]
    rfl
  rw [rtype, rnest_no (by decide), hv]
  simp only [h1, if_true]
theorem Par.wayIn (l b : List Tok) : Par l (rwayIn l) (tokW 1 kIn :: b) true b := fun p hp => by
  obtain ⟨q, h1, h2⟩ := Par.got (l := l) (b := b) (t := tokW 1 kIn) (m := kIn) ⟨rfl, .inl rfl⟩ p hp
  refine ⟨q, ?_, h2⟩
  rw [rwayIn, h1, if_pos rfl]
theorem Par.tmVar (l b : List Tok) (w : ByteArray) : Par l (rterm 66 l 1) (tokW 2 w :: b) (.mk 1 w 0 []) b := fun p hp => by
  obtain ⟨a1, a2, a3, a4⟩ := tok_at hp
  refine ⟨p + 1, ?_, a4⟩
  rw [rterm, rnest_no (by decide)]
  simp only [a3, Bool.false_eq_true, if_false, a1]
  rfl
/-- Items, each with its dot, read one behind the other. -/
inductive Items (l : List Tok) : List Tok → List It → Prop
  | nil : Items l [] []
  | cons {a b : List Tok} {it : It} {is : List It} (hne : a ≠ []) (h : Par l (ritem l) a it (tokDot :: b)) (r : Items l b is) : Items l a (it :: is)
theorem ritems_of {l a : List Tok} {is : List It} (h : Items l a is) : ∀ (xs : List It) (k p : Nat), l.drop p = a → xs.length + is.length ≤ 512 → is.length + 1 ≤ k → ∃ q, ritems l k xs ⟨p, 0⟩ = (xs ++ is, ⟨q, 0⟩) ∧ l.drop q = [] := by
  induction h with
  | nil =>
    intro xs k p hp _ hk
    cases k with
    | zero => simp at hk
    | succ k => exact ⟨p, by simp [ritems, tok_end hp], hp⟩
  | @cons a b it is hne hi _ ih =>
    intro xs k p hp h512 hk
    cases k with
    | zero => simp at hk
    | succ k =>
      simp only [List.length_cons] at h512 hk
      obtain ⟨q, h1, h2⟩ := hi p hp
      obtain ⟨h3, h4⟩ := rneed_at (m := kDot) h2 ⟨rfl, .inr rfl⟩
      obtain ⟨r, h5, h6⟩ := ih (xs ++ [it]) k (q + 1) h4 (by simp only [List.length_append, List.length_cons, List.length_nil]; omega) (by omega)
      refine ⟨r, ?_, h6⟩
      obtain ⟨t, a', rfl⟩ : ∃ t a', a = t :: a' := by cases a with | nil => exact absurd rfl hne | cons t a' => exact ⟨t, a', rfl⟩
      have hr := (tok_at hp).2.2.1
      rw [ritems, hr, if_neg Bool.false_ne_true, if_neg (by omega), h1]
      simp only
      rw [h3, h5]
      simp
theorem rsource_of {l : List Tok} {is : List It} (h : Items l l is) (hn : is.length ≤ 512) (hl : is.length ≤ l.length) : rsource l 0 = (is, 0) := by
  obtain ⟨q, h1, h2⟩ := ritems_of h [] (l.length + 1) 0 rfl (by simpa using hn) (by omega)
  have hq : l.length ≤ q := List.drop_eq_nil_iff.1 h2
  have hd : rdone l ⟨q, 0⟩ = ⟨q, 0⟩ := by rw [rdone, if_neg (by simp only [true_and]; omega)]
  simp only [rsource, h1, List.nil_append, hd, ne_eq, not_true_eq_false, if_false]
theorem Par.pred {l a b : List Tok} {w : ByteArray} {ts : List Ty} (hw : isReserved w = false) (h : Par l (rargs (rtype 66 l 1) l 10 []) a ts b) :
    Par l (ritem l) (tokW 1 kPred :: tokW 1 w :: a) { (default : It) with kind := 2, name := w, types := ts } b := fun p hp => by
  obtain ⟨q0, h0, _⟩ := Par.gotNo (l := l) (b := tokW 1 w :: a) (t := tokW 1 kPred) (m := kType) (fun h => absurd h.1 (by decide)) p hp
  obtain ⟨q1, h1, h1'⟩ := Par.got (l := l) (b := tokW 1 w :: a) (t := tokW 1 kPred) (m := kPred) ⟨rfl, .inl rfl⟩ p hp
  obtain ⟨q2, h2, h2'⟩ := Par.word (l := l) (b := a) (t := tokW 1 w) (k := 1) rfl (fun h => by have := h.2; rw [show (tokW 1 w).text = w from rfl, hw] at this; cases this) _ h1'
  obtain ⟨q3, h3, h3'⟩ := h _ h2'
  refine ⟨q3, ?_, h3'⟩
  rw [ritem, h0, if_neg Bool.false_ne_true, h1, if_pos rfl]
  simp only [ritPred, h2, h3]
  rfl
theorem Par.mode {l a b : List Tok} {w : ByteArray} {ws : List Bool} (hw : isReserved w = false) (h : Par l (rargs (rwayIn l) l 10 []) a ws (tokW 1 kIs :: tokW 1 kDet :: b)) :
    Par l (ritem l) (tokW 1 kMode :: tokW 1 w :: a) { (default : It) with kind := 3, name := w, ways := ws, det := 1 } b := fun p hp => by
  obtain ⟨q0, h0, _⟩ := Par.gotNo (l := l) (b := tokW 1 w :: a) (t := tokW 1 kMode) (m := kType) (fun h => absurd h.1 (by decide)) p hp
  obtain ⟨q0', h0', _⟩ := Par.gotNo (l := l) (b := tokW 1 w :: a) (t := tokW 1 kMode) (m := kPred) (fun h => absurd h.1 (by decide)) p hp
  obtain ⟨q1, h1, h1'⟩ := Par.got (l := l) (b := tokW 1 w :: a) (t := tokW 1 kMode) (m := kMode) ⟨rfl, .inl rfl⟩ p hp
  obtain ⟨q2, h2, h2'⟩ := Par.word (l := l) (b := a) (t := tokW 1 w) (k := 1) rfl (fun h => by have := h.2; rw [show (tokW 1 w).text = w from rfl, hw] at this; cases this) _ h1'
  obtain ⟨q3, h3, h3'⟩ := h _ h2'
  obtain ⟨h4, h4'⟩ := rneed_at (m := kIs) h3' ⟨rfl, .inl rfl⟩
  obtain ⟨q5, h5, h5'⟩ := Par.got (l := l) (b := b) (t := tokW 1 kDet) (m := kDet) ⟨rfl, .inl rfl⟩ _ h4'
  refine ⟨q5, ?_, h5'⟩
  have e0 : (rgot l kType ⟨p, 0⟩).1 = false := by rw [h0]
  have e1 : (rgot l kPred ⟨p, 0⟩).1 = false := by rw [h0']
  rw [ritem, e0, if_neg Bool.false_ne_true, e1, if_neg Bool.false_ne_true, h1, if_pos rfl]
  simp only [ritMode, h2, h3, h4, rdet, h5, if_true]
  rfl
theorem not_res {w m : ByteArray} (h : isReserved w = false) (hm : isReserved m = true) : w ≠ m := fun e => by rw [e, hm] at h; cases h
theorem Par.clause {l a b : List Tok} {w : ByteArray} {ts : List Tm} {t : Tok} (hw : isReserved w = false) (h : Par l (rargs (rterm 66 l 1) l 10 []) a ts (t :: b)) (ht : ¬ Stands t kIf) :
    Par l (ritem l) (tokW 1 w :: a) { (default : It) with kind := 4, name := w, args := ts, body := .mk 1 .none .none ⟨#[]⟩ [] [] } (t :: b) := fun p hp => by
  have no : ∀ m, isReserved m = true → (rgot l m ⟨p, 0⟩).1 = false := fun m hm => by
    obtain ⟨q, e, _⟩ := Par.gotNo (l := l) (b := a) (t := tokW 1 w) (m := m) (fun h => not_res hw hm h.1) p hp
    rw [e]
  obtain ⟨q2, h2, h2'⟩ := Par.word (l := l) (b := a) (t := tokW 1 w) (k := 1) rfl (fun h => by have := h.2; rw [show (tokW 1 w).text = w from rfl, hw] at this; cases this) p hp
  obtain ⟨q3, h3, h3'⟩ := h _ h2'
  obtain ⟨q4, h4, _⟩ := Par.gotNo (l := l) (b := b) (t := t) (m := kIf) ht _ h3'
  refine ⟨q3, ?_, h3'⟩
  have e4 : (rgot l kIf ⟨q3, 0⟩).1 = false := by rw [h4]
  rw [ritem, no kType (by decide), if_neg Bool.false_ne_true, no kPred (by decide), if_neg Bool.false_ne_true, no kMode (by decide), if_neg Bool.false_ne_true]
  simp only [ritClause, h2, h3, e4, Bool.false_eq_true, if_false]
  rfl
end Go.Aug
