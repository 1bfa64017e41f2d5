/- The grammar as plain functions, and what holds of them; no conditions but those in each theorem. -/
import Derived.Test.YtckdiafomldepaaDoorGrammarOne
import Derived.Lib.Bytealg
set_option linter.all false
set_option linter.unusedVariables false
set_option linter.unusedSimpArgs false
set_option linter.unusedSectionVars false

/- Plain: the tokens of a text, step by step. -/
namespace Go.Aug
set_option maxRecDepth 100000
set_option linter.unusedSimpArgs false
theorem bat_lt {s : ByteArray} {p : Nat} {c : UInt8} (h : s[p]? = some c) : p < s.size := by
 apply Classical.byContradiction; intro hn
 simp [hn] at h
theorem bat_end {s : ByteArray} {p : Nat} (h : s.size ≤ p) : s[p]? = none := by
 have : ¬ p < s.size := by omega
 simp [this]
theorem rAll_fuel {s : ByteArray} : ∀ (k j p : Nat) (cm : Bool) (pl : List Int) (ts : List Tok), s.size ≤ k + p → s.size ≤ j + p → rAll s k p cm pl ts = rAll s j p cm pl ts
 | 0, 0, p, cm, pl, ts, _, _ => rfl
 | 0, j + 1, p, cm, pl, ts, h, _ => by simp only [rAll, bat_end (s := s) (p := p) (by omega)]
 | k + 1, 0, p, cm, pl, ts, _, h => by simp only [rAll, bat_end (s := s) (p := p) (by omega)]
 | k + 1, j + 1, p, cm, pl, ts, h1, h2 => by
  have a1 : s.size ≤ k + (p + 1) := by omega
  have a2 : s.size ≤ j + (p + 1) := by omega
  have a3 : ∀ m, 1 ≤ m → s.size ≤ k + (p + m) := fun m hm => by omega
  have a4 : ∀ m, 1 ≤ m → s.size ≤ j + (p + m) := fun m hm => by omega
  simp only [rAll]
  cases hc : s[p]? with
  | none => rfl
  | some c =>
   have e1 := rAll_fuel k j (p + 1) (!decide ((c.toNat : Int) = 10)) pl ts a1 a2
   have e2 := rAll_fuel k j (p + 1) false pl ts a1 a2
   have e3 := rAll_fuel k j (p + 1) true pl ts a1 a2
   simp only [e2, e3]
   repeat' split
   all_goals first | rfl | skip
   all_goals first | exact e1 | skip
   rename_i hw
   have hsz := rWord_size hc hw
   exact rAll_fuel k j _ _ _ _ (a3 _ hsz.1) (a4 _ hsz.1)
theorem rAll_pl {s : ByteArray} : ∀ (k p : Nat) (cm : Bool) (pl pl' : List Int) (ts : List Tok), (rAll s k p cm pl ts).2 = (rAll s k p cm pl' ts).2
 | 0, _, _, _, _, _ => rfl
 | k + 1, p, cm, pl, pl', ts => by
  simp only [rAll]
  cases hc : s[p]? with
  | none => rfl
  | some c =>
   simp only
   repeat' split
   all_goals first | rfl | exact rAll_pl k _ _ _ _ _
/-- The tokens from a place on, and whether they go to the end. -/
def toks (s : ByteArray) (p : Nat) (cm : Bool) (ts : List Tok) : List Tok × Bool := (rAll s (s.size - p) p cm [] ts).2
theorem toks_end {s : ByteArray} {p : Nat} {cm : Bool} {ts : List Tok} (h : s.size ≤ p) : toks s p cm ts = (ts, true) := by
 unfold toks
 rw [show s.size - p = 0 by omega]
 simp only [rAll]
theorem toks_step {s : ByteArray} {p : Nat} {cm : Bool} {ts : List Tok} {c : UInt8} (h : s[p]? = some c) : toks s p cm ts =
  if cm = true then toks s (p + 1) (!decide ((c.toNat : Int) = 10)) ts else if isBlank c = true then toks s (p + 1) false ts else if (c.toNat : Int) = 37 then toks s (p + 1) true ts
  else if (rWord s p c).2 = true then toks s (p + (rWord s p c).1.text.size) false (ts ++ [(rWord s p c).1]) else (ts, false) := by
 have hlt := bat_lt h
 unfold toks
 obtain ⟨k, hk⟩ : ∃ k, s.size - p = k + 1 := ⟨s.size - p - 1, by omega⟩
 rw [hk, show s.size - (p + 1) = k by omega]
 simp only [rAll, h]
 cases cm with
 | true => simp only [if_true]
 | false =>
  simp only [Bool.false_eq_true, if_false]
  split
  ·rfl
  ·split
   ·rfl
   ·split
    ·rename_i hw
     have hsz := rWord_size h hw
     rw [rAll_fuel k (s.size - (p + (rWord s p c).1.text.size)) _ _ _ _ (by omega) (by omega)]
     exact rAll_pl ..
    ·rfl
theorem rlex_toks (s : ByteArray) : rlex s = if 16384 < s.size then ([], 4) else if (toks s 0 false []).2 = true then ((toks s 0 false []).1, 0) else ([], 1) := by
 unfold rlex toks
 rfl
/-- Where a span ends. -/
def spanTo (q : UInt8 → Bool) (s : ByteArray) (n : Nat) : Nat := runTo q s (s.size - n) n
theorem runTo_fuel {q : UInt8 → Bool} {s : ByteArray} : ∀ (k j n : Nat), s.size ≤ k + n → s.size ≤ j + n → runTo q s k n = runTo q s j n
 | 0, 0, n, _, _ => rfl
 | 0, j + 1, n, h, _ => by simp only [runTo, bat_end (s := s) (p := n) (by omega)]
 | k + 1, 0, n, _, h => by simp only [runTo, bat_end (s := s) (p := n) (by omega)]
 | k + 1, j + 1, n, h1, h2 => by
  have e := runTo_fuel (q := q) (s := s) k j (n + 1) (by omega) (by omega)
  simp only [runTo, e]
theorem spanTo_is {q : UInt8 → Bool} {s : ByteArray} {n : Nat} : runTo q s s.size n = spanTo q s n := runTo_fuel _ _ _ (by omega) (by omega)
theorem spanTo_end {q : UInt8 → Bool} {s : ByteArray} {n : Nat} (h : s.size ≤ n) : spanTo q s n = n := by
 unfold spanTo
 rw [show s.size - n = 0 by omega]
 simp only [runTo]
theorem spanTo_step {q : UInt8 → Bool} {s : ByteArray} {n : Nat} {c : UInt8} (h : s[n]? = some c) : spanTo q s n = if q c = true then spanTo q s (n + 1) else n := by
 have hlt := bat_lt h
 unfold spanTo
 obtain ⟨k, hk⟩ : ∃ k, s.size - n = k + 1 := ⟨s.size - n - 1, by omega⟩
 rw [hk, show s.size - (n + 1) = k by omega]
 simp only [runTo, h]
theorem spanTo_le {q : UInt8 → Bool} {s : ByteArray} {n : Nat} (h : n ≤ s.size) : n ≤ spanTo q s n ∧ spanTo q s n ≤ s.size := by
 rw [← spanTo_is]; exact runTo_le _ _ h
theorem spanTo_stop {q : UInt8 → Bool} {s : ByteArray} : ∀ (m n : Nat), s.size - n = m → ∀ x, s[spanTo q s n]? = some x → q x = false
 | 0, n, h, x, hx => by
  rw [spanTo_end (by omega), bat_end (by omega)] at hx; cases hx
 | m + 1, n, h, x, hx => by
  obtain ⟨c, hc⟩ : ∃ c, s[n]? = some c := ⟨s[n]'(by omega), by simp⟩
  have hst := spanTo_step (q := q) hc
  cases hq : q c with
  | true => rw [hst, hq, if_pos rfl] at hx; exact spanTo_stop m (n + 1) (by omega) x hx
  | false => rw [hst, hq, if_neg Bool.false_ne_true, hc] at hx; cases hx; exact hq
/-- A comment's end. -/
theorem toks_com {s : ByteArray} {ts : List Tok} : ∀ (m p : Nat), (∀ j, p ≤ j → j < p + m → ∃ c, s[j]? = some c ∧ ¬ (c.toNat : Int) = 10) → toks s p true ts = toks s (p + m) true ts
 | 0, p, _ => rfl
 | m + 1, p, h => by
  obtain ⟨c, hc, hn⟩ := h p (Nat.le_refl _) (by omega)
  rw [toks_step hc, if_pos rfl, show (!decide ((c.toNat : Int) = 10)) = true by simp [hn], toks_com m (p + 1) (fun j h1 h2 => h j (by omega) (by omega))]
  congr 1; omega
theorem indexByte_at : ∀ (l : List UInt8) (c : UInt8), (Lib.indexByte l c = -1 ∧ ∀ x ∈ l, x ≠ c) ∨ ∃ n : Nat, Lib.indexByte l c = (n : Int) ∧ n < l.length ∧ l[n]? = some c ∧ ∀ j, j < n → ∀ x, l[j]? = some x → x ≠ c
 | [], c => .inl ⟨rfl, fun x h => by cases h⟩
 | b :: l, c => by
  by_cases hb : b = c
  ·subst hb
   exact .inr ⟨0, by simp [Lib.indexByte], by simp, rfl, fun j h => by omega⟩
  ·have hb' : (b == c) = false := by simpa using hb
   rcases indexByte_at l c with ⟨h1, h2⟩ | ⟨n, h1, h2, h3, h4⟩
   ·refine .inl ⟨by simp [Lib.indexByte, hb', h1], fun x hx => ?_⟩
    rcases List.mem_cons.1 hx with rfl | hx
    ·exact hb
    ·exact h2 x hx
   ·refine .inr ⟨n + 1, ?_, by simpa using h2, by simpa using h3, fun j hj x hx => ?_⟩
    ·have : ¬ ((n : Int) == -1) = true := by simp
     simp only [Lib.indexByte, hb', h1, Bool.false_eq_true, if_false]
     rw [if_neg this]; omega
    ·cases j with
     | zero => simp at hx; rw [← hx]; exact hb
     | succ j => exact h4 j (by omega) x (by simpa using hx)
/-- Where the next token begins: the place, and what is known of it. -/
def SkipTo (s : ByteArray) (p p' : Nat) : Prop := p ≤ p' ∧ p' ≤ s.size ∧ (∀ ts, toks s p false ts = toks s p' false ts) ∧ ∀ c, s[p']? = some c → isBlank c = false ∧ ¬ (c.toNat : Int) = 37
theorem ba_list {s : ByteArray} {i : Nat} : s[i]? = s.data.toList[i]? := by
 by_cases h : i < s.size
 ·rw [getElem?_pos s i h, List.getElem?_eq_getElem (by simpa using h)]; rfl
 ·rw [getElem?_neg s i h, List.getElem?_eq_none (by simpa using h)]
theorem extract_list (s : ByteArray) (n : Nat) : (s.extract n s.size).data.toList = s.data.toList.drop n := by
 rw [ByteArray.data_extract, Array.toList_extract, List.extract_eq_drop_take, List.take_of_length_le]
 simp
/-- A comment: to its line's end, or the text's. -/
theorem com_end {s : ByteArray} {n : Nat} {c : UInt8} (hc : s[n]? = some c) (h37 : (c.toNat : Int) = 37) (hno : ∀ x ∈ s.data.toList.drop n, x ≠ 10) (ts : List Tok) : toks s n false ts = toks s s.size false ts := by
 have hlt := bat_lt hc
 have hb : isBlank c = false := by simp [isBlank]; omega
 rw [toks_step hc, if_neg Bool.false_ne_true, if_neg (by rw [hb]; exact Bool.false_ne_true), if_pos h37, toks_com (s.size - (n + 1)) (n + 1) (fun j h1 h2 => ?_)]
 ·rw [show n + 1 + (s.size - (n + 1)) = s.size by omega, toks_end (Nat.le_refl _), toks_end (Nat.le_refl _)]
 ·have hj : j < s.size := by omega
  refine ⟨s[j], by simp [hj], fun he => ?_⟩
  have : s[j] ∈ s.data.toList.drop n := List.mem_iff_getElem?.2 ⟨j - n, by rw [List.getElem?_drop, show n + (j - n) = j by omega, ← ba_list]; simp [hj]⟩
  exact hno _ this (UInt8.toNat_inj.1 (by show (s[j]).toNat = 10; omega))
theorem com_line {s : ByteArray} {n m : Nat} {c : UInt8} (hc : s[n]? = some c) (h37 : (c.toNat : Int) = 37) (hm : (s.data.toList.drop n)[m]? = some 10) (hno : ∀ j, j < m → ∀ x, (s.data.toList.drop n)[j]? = some x → x ≠ 10) (ts : List Tok) : toks s n false ts = toks s (n + m) false ts := by
 have hlt := bat_lt hc
 have hb : isBlank c = false := by simp [isBlank]; omega
 have hm' : s[n + m]? = some 10 := by rw [ba_list, ← List.getElem?_drop]; exact hm
 have hltm := bat_lt hm'
 have hm0 : m ≠ 0 := fun e => by subst e; rw [Nat.add_zero, hc] at hm'; cases hm'; revert h37; decide
 rw [toks_step hc, if_neg Bool.false_ne_true, if_neg (by rw [hb]; exact Bool.false_ne_true), if_pos h37, toks_com (m - 1) (n + 1) (fun j h1 h2 => ?_)]
 ·rw [show n + 1 + (m - 1) = n + m by omega, toks_step (cm := true) hm', if_pos rfl, toks_step (cm := false) hm', if_neg Bool.false_ne_true, if_pos (by decide)]
  rfl
 ·have hj : j < s.size := by omega
  have hsj : s[j]? = some s[j] := by simp [hj]
  refine ⟨s[j], hsj, fun he => ?_⟩
  exact hno (j - n) (by omega) s[j] (by rw [List.getElem?_drop, show n + (j - n) = j by omega, ← ba_list]; exact hsj) (UInt8.toNat_inj.1 (by show (s[j]).toNat = 10; omega))
end Go.Aug
