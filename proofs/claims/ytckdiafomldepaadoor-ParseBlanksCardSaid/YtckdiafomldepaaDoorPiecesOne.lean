/- Texts piece by piece: what the lexer's and the reader's plain forms make of them; conditions stand in each theorem. -/
import Derived.Test.YtckdiafomldepaaDoorGrammarOne
set_option linter.all false
set_option linter.unusedVariables false
set_option linter.unusedSimpArgs false
set_option linter.unusedSectionVars false

/- Plain: the tokens of bytes, piece by piece. -/
namespace Go.Aug
set_option maxRecDepth 100000
set_option linter.unusedSimpArgs false
theorem ba_at {s : ByteArray} {p : Nat} {c : UInt8} {rest : List UInt8} (h : s.data.toList.drop p = c :: rest) : s[p]? = some c ∧ p < s.size := by
 have h1 : s.data.toList[p]? = some c := by rw [← List.head?_drop, h]; rfl
 have hlt : p < s.size := by have := (List.getElem?_eq_some_iff.1 h1).1; simpa using this
 refine ⟨?_, hlt⟩
 rw [getElem?_pos s p hlt]
 have : s.data.toList[p]'(by simpa using hlt) = c := (List.getElem?_eq_some_iff.1 h1).2
 rw [← this]; rfl
theorem ba_end {s : ByteArray} {p : Nat} (h : s.data.toList.drop p = []) : s[p]? = none := by
 have : s.data.toList.length ≤ p := List.drop_eq_nil_iff.1 h
 exact getElem?_neg s p (by simp at this; show ¬ p < s.size; exact Nat.not_lt.2 this)
theorem ba_drop {s : ByteArray} {p : Nat} {a b : List UInt8} (h : s.data.toList.drop p = a ++ b) : s.data.toList.drop (p + a.length) = b := by
 rw [← List.drop_drop, h, List.drop_left]
theorem ba_extract {s : ByteArray} {p : Nat} {a b : List UInt8} (h : s.data.toList.drop p = a ++ b) : s.extract p (p + a.length) = ⟨⟨a⟩⟩ := by
 apply ByteArray.ext
 rw [ByteArray.data_extract]
 apply Array.ext'
 rw [Array.toList_extract, List.extract_eq_drop_take, h]
 have : p + a.length - p = a.length := by omega
 rw [this, List.take_left]
theorem runTo_at {q : UInt8 → Bool} {s : ByteArray} : ∀ (w rest : List UInt8) (k n : Nat), s.data.toList.drop n = w ++ rest → (∀ c ∈ w, q c = true) → (∀ c, rest.head? = some c → q c = false) → w.length ≤ k → runTo q s k n = n + w.length
 | [], rest, k, n, h, _, hr, _ => by
  cases k with
  | zero => rfl
  | succ k =>
   cases rest with
   | nil => simp only [runTo, ba_end h]; rfl
   | cons c rest => simp only [runTo, (ba_at h).1, hr c rfl]; rfl
 | c :: w, rest, k, n, h, hw, hr, hk => by
  cases k with
  | zero => simp at hk
  | succ k =>
   simp only [runTo, (ba_at h).1, hw c (.head _), if_true]
   rw [runTo_at w rest k (n + 1) (ba_drop (a := [c]) h) (fun x hx => hw x (.tail _ hx)) hr (by simpa using hk)]
   simp only [List.length_cons]; omega
def isWd (c : UInt8) : Bool := isLet c || isDig c
theorem runTo_all {q : UInt8 → Bool} {s : ByteArray} : ∀ (k n : Nat), n ≤ s.size → ∀ j, n ≤ j → j < runTo q s k n → ∃ c, s[j]? = some c ∧ q c = true
 | 0, n, _, j, h1, h2 => by simp only [runTo] at h2; omega
 | k + 1, n, hn, j, h1, h2 => by
  simp only [runTo] at h2
  split at h2
  ·rename_i c hc
   split at h2
   ·rename_i hq
    rcases Nat.lt_or_ge n j with h | h
    ·have hlt : n < s.size := by
      apply Classical.byContradiction; intro hn
      simp [hn] at hc
     exact runTo_all k (n + 1) hlt j h h2
    ·have : j = n := by omega
     subst this; exact ⟨c, hc, hq⟩
   ·omega
  ·omega
end Go.Aug
