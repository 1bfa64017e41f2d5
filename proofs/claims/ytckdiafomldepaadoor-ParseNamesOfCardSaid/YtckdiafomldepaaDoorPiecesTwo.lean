/- Texts piece by piece: what the lexer's and the reader's plain forms make of them; conditions stand in each theorem. -/
import Derived.Test.YtckdiafomldepaaDoorPiecesOne
set_option linter.all false
set_option linter.unusedVariables false
set_option linter.unusedSimpArgs false
set_option linter.unusedSectionVars false

/- Plain: what the reader reads of tokens, piece by piece. -/
namespace Go.Aug
set_option maxRecDepth 100000
set_option linter.unusedSimpArgs false
/-- Where a is what is left, f reads x, and b is left. -/
def Par {α : Type} (l : List Tok) (f : RdS → α × RdS) (a : List Tok) (x : α) (b : List Tok) : Prop := ∀ p, l.drop p = a → ∃ q, f ⟨p, 0⟩ = (x, ⟨q, 0⟩) ∧ l.drop q = b
theorem tok_at {l b : List Tok} {p : Nat} {t : Tok} (h : l.drop p = t :: b) : l[p]? = some t ∧ p < l.length ∧ rend l ⟨p, 0⟩ = false ∧ l.drop (p + 1) = b := by
 have h1 : l[p]? = some t := by rw [← List.head?_drop, h]; rfl
 have h2 := (List.getElem?_eq_some_iff.1 h1).1
 refine ⟨h1, h2, by simp [rend]; omega, ?_⟩
 rw [← List.drop_drop, h]; rfl
theorem tok_end {l : List Tok} {p : Nat} (h : l.drop p = []) : rend l ⟨p, 0⟩ = true := by
 have := List.drop_eq_nil_iff.1 h
 simp [rend]; omega
/-- A word or mark that stands next. -/
def Stands (t : Tok) (m : ByteArray) : Prop := t.text = m ∧ (t.kind = 1 ∨ t.kind = 4)
theorem ris_at {l b : List Tok} {p : Nat} {t : Tok} {m : ByteArray} (h : l.drop p = t :: b) : ris l m ⟨p, 0⟩ = true ↔ Stands t m := by
 obtain ⟨h1, h2, h3, h4⟩ := tok_at h
 simp [ris, h3, h1, Stands]
theorem Par.gotNo {l b : List Tok} {t : Tok} {m : ByteArray} (h : ¬ Stands t m) : Par l (rgot l m) (t :: b) false (t :: b) := fun p hp => by
 refine ⟨p, ?_, hp⟩
 rw [rgot, if_neg (fun hh => h ((ris_at hp).1 hh))]
theorem Par.gotEnd {l : List Tok} {m : ByteArray} : Par l (rgot l m) [] false [] := fun p hp => by
 refine ⟨p, ?_, hp⟩
 rw [rgot, if_neg (by simp [ris, tok_end hp])]
theorem rneed_at {l b : List Tok} {t : Tok} {m : ByteArray} {p : Nat} (hp : l.drop p = t :: b) (h : Stands t m) : rneed l m ⟨p, 0⟩ = ⟨p + 1, 0⟩ ∧ l.drop (p + 1) = b := by
 refine ⟨?_, (tok_at hp).2.2.2⟩
 rw [rneed, if_pos rfl, rgot, if_pos ((ris_at hp).2 h)]
 rfl
theorem Par.word {l b : List Tok} {t : Tok} {k : Int} (h1 : t.kind = k) (h2 : ¬ (k = 1 ∧ isReserved t.text = true)) : Par l (rword l k) (t :: b) t.text b := fun p hp => by
 obtain ⟨a1, a2, a3, a4⟩ := tok_at hp
 refine ⟨p + 1, ?_, a4⟩
 simp only [rword, a3, Bool.false_eq_true, if_false, a1]
 rw [if_neg (by rintro (h | h); exact h h1; exact h2 h)]
theorem rnest_no {l : List Tok} {n : Nat} {s : RdS} (h : n ≤ 64) : rnest l n s = s := by rw [rnest, if_neg (by omega)]
def tokDot : Tok := ⟨4, ⟨#[46]⟩, 0⟩
theorem open_no {t : Tok} (h : t.text ≠ ⟨#[40]⟩) : ¬ Stands t ⟨#[40]⟩ := fun hh => h hh.1
theorem Par.argsNo {α : Type} {l b : List Tok} {f : RdS → α × RdS} {t : Tok} (h : ¬ Stands t ⟨#[40]⟩) : Par l (rargs f l 10 []) (t :: b) [] (t :: b) := fun p hp => by
 refine ⟨p, ?_, hp⟩
 have hg : rgot l ⟨#[40]⟩ ⟨p, 0⟩ = (false, ⟨p, 0⟩) := by rw [rgot, if_neg (fun hh => h ((ris_at hp).1 hh))]
 simp only [rargs, if_true, rmore, List.length_nil, hg, Bool.false_eq_true, if_false]
def tokW (k : Int) (w : ByteArray) : Tok := ⟨k, w, 0⟩
/-- Items, each with its dot, read one behind the other. -/
inductive Items (l : List Tok) : List Tok → List It → Prop
 | nil : Items l [] []
 | cons {a b : List Tok} {it : It} {is : List It} (hne : a ≠ []) (h : Par l (ritem l) a it (tokDot :: b)) (r : Items l b is) : Items l a (it :: is)
theorem ritems_of {l a : List Tok} {is : List It} (h : Items l a is) : ∀ (xs : List It) (k p : Nat), l.drop p = a → xs.length + is.length ≤ 512 → is.length + 1 ≤ k → ∃ q, ritems l k xs ⟨p, 0⟩ = (xs ++ is, ⟨q, 0⟩) ∧ l.drop q = [] := by
 induction h with
 | nil =>
  intro xs k p hp _ hk
  cases k with
  | zero => simp at hk
  | succ k => exact ⟨p, by simp [ritems, tok_end hp], hp⟩
 | @cons a b it is hne hi _ ih =>
  intro xs k p hp h512 hk
  cases k with
  | zero => simp at hk
  | succ k =>
   simp only [List.length_cons] at h512 hk
   obtain ⟨q, h1, h2⟩ := hi p hp
   obtain ⟨h3, h4⟩ := rneed_at (m := kDot) h2 ⟨rfl, .inr rfl⟩
   obtain ⟨r, h5, h6⟩ := ih (xs ++ [it]) k (q + 1) h4 (by simp only [List.length_append, List.length_cons, List.length_nil]; omega) (by omega)
   refine ⟨r, ?_, h6⟩
   obtain ⟨t, a', rfl⟩ : ∃ t a', a = t :: a' := by cases a with | nil => exact absurd rfl hne | cons t a' => exact ⟨t, a', rfl⟩
   have hr := (tok_at hp).2.2.1
   rw [ritems, hr, if_neg Bool.false_ne_true, if_neg (by omega), h1]
   simp only
   rw [h3, h5]
   simp
theorem rsource_of {l : List Tok} {is : List It} (h : Items l l is) (hn : is.length ≤ 512) (hl : is.length ≤ l.length) : rsource l 0 = (is, 0) := by
 obtain ⟨q, h1, h2⟩ := ritems_of h [] (l.length + 1) 0 rfl (by simpa using hn) (by omega)
 have hq : l.length ≤ q := List.drop_eq_nil_iff.1 h2
 have hd : rdone l ⟨q, 0⟩ = ⟨q, 0⟩ := by rw [rdone, if_neg (by simp only [true_and]; omega)]
 simp only [rsource, h1, List.nil_append, hd, ne_eq, not_true_eq_false, if_false]
theorem not_res {w m : ByteArray} (h : isReserved w = false) (hm : isReserved m = true) : w ≠ m := fun e => by rw [e, hm] at h; cases h
theorem Par.clause {l a b : List Tok} {w : ByteArray} {ts : List Tm} {t : Tok} (hw : isReserved w = false) (h : Par l (rargs (rterm 66 l 1) l 10 []) a ts (t :: b)) (ht : ¬ Stands t kIf) :
  Par l (ritem l) (tokW 1 w :: a) { (default : It) with kind := 4, name := w, args := ts, body := .mk 1 .none .none ⟨#[]⟩ [] [] } (t :: b) := fun p hp => by
 have no : ∀ m, isReserved m = true → (rgot l m ⟨p, 0⟩).1 = false := fun m hm => by
  obtain ⟨q, e, _⟩ := Par.gotNo (l := l) (b := a) (t := tokW 1 w) (m := m) (fun h => not_res hw hm h.1) p hp
  rw [e]
 obtain ⟨q2, h2, h2'⟩ := Par.word (l := l) (b := a) (t := tokW 1 w) (k := 1) rfl (fun h => by have := h.2; rw [show (tokW 1 w).text = w from rfl, hw] at this; cases this) p hp
 obtain ⟨q3, h3, h3'⟩ := h _ h2'
 obtain ⟨q4, h4, _⟩ := Par.gotNo (l := l) (b := b) (t := t) (m := kIf) ht _ h3'
 refine ⟨q3, ?_, h3'⟩
 have e4 : (rgot l kIf ⟨q3, 0⟩).1 = false := by rw [h4]
 rw [ritem, no kType (by decide), if_neg Bool.false_ne_true, no kPred (by decide), if_neg Bool.false_ne_true, no kMode (by decide), if_neg Bool.false_ne_true]
 simp only [ritClause, h2, h3, e4, Bool.false_eq_true, if_false]
 rfl
end Go.Aug
