/- The facts of the program's functions, and the contracts of its lexer and parser; conditions stand in each contract. -/
import Derived.Test.YtckdiafomldepaaDoorReaderFive
import Derived.Test.YtckdiafomldepaaDoorPiecesOne
import Derived.Test.YtckdiafomldepaaDoorPiecesTwo
set_option linter.all false
set_option linter.unusedVariables false
set_option linter.unusedSimpArgs false
set_option linter.unusedSectionVars false

/- Texts that nest n deep: what the parser's plain form says of them. -/
namespace Go.Aug
set_option maxRecDepth 1000000
theorem rone_err {α : Type} (q : List Tok → RdS → α × RdS) (z : α) {s : ByteArray} {l : List Tok} (h : rlex s = (l, 0)) : (rone q z s).2 = (rdone l (q l ⟨0, 0⟩).2).err := by
 unfold rone; rw [h]; simp only
 split
 ·rfl
 ·rename_i hh; exact (Decidable.not_not.mp hh).symm

theorem res_is : (reserved.all fun w => decide ((rpS (w ++ ⟨#[46]⟩)).2 = 2) && decide ((rpT w).2 = 2)) = true := by kernel_rfl
theorem named_res {s : ByteArray} (h : isReserved s = true) : (rpS (s ++ ⟨#[46]⟩)).2 = 2 ∧ (rpT s).2 = 2 := by
 unfold isReserved at h
 obtain ⟨w, hw, e⟩ := List.any_eq_true.1 h
 have e := of_decide_eq_true e
 subst e
 have := List.all_eq_true.1 res_is _ hw
 rw [Bool.and_eq_true] at this
 exact ⟨of_decide_eq_true this.1, of_decide_eq_true this.2⟩
theorem name_lex {s : ByteArray} (h : IsName s) (rest : List UInt8) (ts : List Tok) (hr : ∀ x, rest.head? = some x → isWd x = false) (hl : LexTo rest ts) : LexTo (s.data.toList ++ rest) (tokW 1 s :: ts) := by
 obtain ⟨c, w, e, h1, h2, h3⟩ := h
 have := LexTo.word (c := c) (w := w) (by simp [isLet, h1]) h2 h3 hr hl
 rw [if_pos h1] at this
 rw [e]
 have e2 : s = ⟨⟨c :: w⟩⟩ := by rw [← e]
 rw [e2]
 exact this
theorem name_size {s : ByteArray} (h : IsName s) : s.size ≤ 32 := by
 obtain ⟨c, w, e, h1, h2, h3⟩ := h
 have := congrArg List.length e
 simp only [Array.length_toList, List.length_cons] at this
 show s.data.size ≤ 32
 omega
theorem named_lex {s : ByteArray} (h : IsName s) : rlex s = ([tokW 1 s], 0) := by
 have := name_lex h [] [] (fun x hx => by cases hx) LexTo.nil
 rw [List.append_nil] at this
 exact rlex_of (by have := name_size h; omega) this
theorem named_lexD {s : ByteArray} (h : IsName s) : rlex (s ++ ⟨#[46]⟩) = ([tokW 1 s, tokDot], 0) := by
 have := name_lex h [46] _ (fun x hx => by cases hx; decide) (LexTo.mark (c := 46) (by decide) (by decide) (by decide) (by decide) (by decide) (by decide) (by decide) LexTo.nil)
 have this' : LexTo (s ++ ⟨#[46]⟩ : ByteArray).data.toList [tokW 1 s, tokDot] := by
  have e : (s ++ ⟨#[46]⟩ : ByteArray).data.toList = s.data.toList ++ [46] := by simp
  rw [e]; exact this
 refine rlex_of ?_ this'
 rw [ByteArray.size_append]
 have := name_size h
 show _ + 1 ≤ _
 omega
theorem named_src {s : ByteArray} (h : IsName s) (hr : isReserved s = false) : (rpS (s ++ ⟨#[46]⟩)).2 = 0 := by
 unfold rpS
 rw [named_lexD h]
 have := rsource_of (l := [tokW 1 s, tokDot]) (.cons (by simp) (Par.clause (a := [tokDot]) (b := []) (t := tokDot) hr (Par.argsNo (open_no (by decide))) (fun hh => absurd hh.1 (by decide))) .nil) (by simp) (by simp)
 rw [this]
theorem named_tm {s : ByteArray} (h : IsName s) (hr : isReserved s = false) : (rpT s).2 = 0 := by
 unfold rpT
 rw [rone_err _ _ (named_lex h)]
 have hp : ([tokW 1 s] : List Tok).drop 0 = tokW 1 s :: [] := rfl
 obtain ⟨a1, a2, a3, a4⟩ := tok_at hp
 obtain ⟨q, h1, h2⟩ := Par.word (l := [tokW 1 s]) (b := []) (t := tokW 1 s) (k := 1) rfl (fun h => by have := h.2; rw [show (tokW 1 s).text = s from rfl, hr] at this; cases this) 0 hp
 obtain ⟨q2, h3, h4⟩ := Par.gotEnd (l := [tokW 1 s]) (m := ⟨#[40]⟩) q h2
 have ha : ∀ (f : RdS → Tm × RdS), (rargs f [tokW 1 s] 10 [] ⟨q, 0⟩).2 = ⟨q2, 0⟩ := fun f => by
  simp only [rargs, if_true, rmore, List.length_nil, h3, Bool.false_eq_true, if_false]
 rw [rterm, rnest_no (by decide)]
 simp only [a3, Bool.false_eq_true, if_false, a1]
 rw [if_neg (show ¬ (tokW 1 s).kind = 3 from (show ¬ (1 : Int) = 3 by decide)), if_neg (show ¬ (tokW 1 s).kind = 2 from (show ¬ (1 : Int) = 2 by decide))]
 simp only [h1, ha]
 have he := List.drop_eq_nil_iff.1 h4
 unfold rdone
 rw [if_neg (fun hh => by have := hh.2; simp only at this; omega)]
end Go.Aug
