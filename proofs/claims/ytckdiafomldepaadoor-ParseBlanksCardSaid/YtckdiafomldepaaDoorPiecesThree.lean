/- Texts piece by piece: what the lexer's and the reader's plain forms make of them; conditions stand in each theorem. -/
import Derived.Test.YtckdiafomldepaaDoorPiecesTwo
import Derived.Test.YtckdiafomldepaaDoorGrammarThree
set_option linter.all false
set_option linter.unusedVariables false
set_option linter.unusedSimpArgs false
set_option linter.unusedSectionVars false

/- Plain: the reader over rows of tokens that stand alike. -/
namespace Go.Aug
set_option maxRecDepth 100000
set_option linter.unusedSimpArgs false
section
variable {l l' : List Tok} {d m : Nat} {P : Prop} {s : RdS} {t : ByteArray}
end
theorem ritems_stop {l : List Tok} {k : Nat} {is : List It} {s : RdS} (h : rend l s = true) : ritems l k is s = (is, s) := by
 cases k with
 | zero => rfl
 | succ k => simp only [ritems, h, if_true]
end Go.Aug

/- Plain: texts one behind the other, spread texts, texts in brackets. -/
namespace Go.Aug
set_option maxRecDepth 100000
set_option linter.unusedSimpArgs false
theorem rsource_err {l : List Tok} {e : Int} (he : e ≠ 0) : rsource l e = ([], e) := by
 unfold rsource
 rw [ritems_stop (by simp [rend, he])]
 simp only [rdone, he, false_and, if_false, ne_eq, not_false_eq_true, if_true]
theorem app_list (a b : ByteArray) : (a ++ b).data.toList = a.data.toList ++ b.data.toList := by simp
theorem app_size (a b : ByteArray) : (a ++ b).size = a.size + b.size := by simp
/-- The five blanks. -/
def blanks : List ByteArray := [⟨#[32]⟩, ⟨#[10]⟩, ⟨#[32, 37, 32, 115, 111, 10]⟩, ⟨#[9, 9]⟩, ⟨#[13, 10]⟩]
theorem blanks_lex {b : ByteArray} (hb : b ∈ blanks) {rest : List UInt8} {ts : List Tok} (h : Lexed false rest ts) : Lexed false (b.data.toList ++ rest) ts := by
 simp only [blanks, List.mem_cons, List.not_mem_nil, or_false] at hb
 rcases hb with rfl | rfl | rfl | rfl | rfl
 ·exact .blank (c := 32) (by decide) h
 ·exact .blank (c := 10) (by decide) h
 ·exact .blank (c := 32) (by decide) (.pct (c := 37) (by decide) (by decide) (.com (c := 32) (.com (c := 115) (.com (c := 111) (.com (c := 10) h)))))
 ·exact .blank (c := 9) (by decide) (.blank (c := 9) (by decide) h)
 ·exact .blank (c := 13) (by decide) (.blank (c := 10) (by decide) h)
theorem blanks_head {b : ByteArray} (hb : b ∈ blanks) (r : List UInt8) : ∃ x, (b.data.toList ++ r).head? = some x ∧ isWd x = false := by
 simp only [blanks, List.mem_cons, List.not_mem_nil, or_false] at hb
 rcases hb with rfl | rfl | rfl | rfl | rfl
 ·exact ⟨32, rfl, by decide⟩
 ·exact ⟨10, rfl, by decide⟩
 ·exact ⟨32, rfl, by decide⟩
 ·exact ⟨9, rfl, by decide⟩
 ·exact ⟨13, rfl, by decide⟩
/-- Tokens, spread: as the law builds them. -/
def spreadB (b : ByteArray) : List Tok → ByteArray → ByteArray
 | [], a => a
 | t :: ts, a => spreadB b ts (a ++ (t.text ++ b))
theorem spreadB_list (b : ByteArray) : ∀ (ts : List Tok) (a : ByteArray), (spreadB b ts a).data.toList = a.data.toList ++ spread b.data.toList ts
 | [], a => by simp [spreadB, spread]
 | t :: ts, a => by rw [spreadB, spreadB_list b ts, app_list, app_list, spread]; simp
theorem blanks_same {s b : ByteArray} {l : List Tok} (hb : b ∈ blanks) (h : rlex s = (l, 0)) (hs : (spreadB b l b).size ≤ 16384) : rlex (spreadB b l b) = (l, 0) := by
 rw [rlex_lexed]
 refine ⟨hs, ?_⟩
 rw [spreadB_list]
 exact blanks_lex hb (Lexed.spread (blanks_lex hb) (blanks_head hb) l ((rlex_lexed.1 h).2.toks))
end Go.Aug
