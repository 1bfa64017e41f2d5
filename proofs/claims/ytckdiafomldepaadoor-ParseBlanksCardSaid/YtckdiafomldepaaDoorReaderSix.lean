/- The facts of the program's functions, and the contracts of its lexer and parser; conditions stand in each contract. -/
import Derived.Test.YtckdiafomldepaaDoorReaderFive
import Derived.Test.YtckdiafomldepaaDoorPiecesFive
import Derived.Test.YtckdiafomldepaaDoorLikesTwo
import Derived.Test.YtckdiafomldepaaDoorLexerOne
set_option linter.all false
set_option linter.unusedVariables false
set_option linter.unusedSimpArgs false
set_option linter.unusedSectionVars false

/- ParseBlanks: blanks and comments between tokens do not matter. -/
namespace Go.Aug
open Go.Proofs
set_option maxRecDepth 100000
set_option linter.unusedSimpArgs false
attribute [local irreducible] hid andK letA onSome onVar onArr arrOnly onInt onBool onTup idxA ldV ldD addO ofPart appTo fillL slA srcK nilQ retW gif sgd sguard svc sops sdops sagain aopO aLoad aStore aBin aUn aConv aLen aIndexAddr aIndex aIndexAddrS aIndexS aSlice aAppend aBuild aBuildSlice aMakeSlice aField aFieldOf aCallOp deepK deepL frzM putE newK newV growV ACall roundQ thenQ inBlockQ sret cnd szs nilC aLookup aMapUpdate aMakeMap
attribute [local go_sem] Int.natCast_zero
theorem spreadB_size {b : ByteArray} : ∀ (ts : List Tok) (a : ByteArray), (spreadB b ts a).size = a.size + (ts.map fun t => t.text.size + b.size).sum
 | [], a => by simp [spreadB]
 | t :: ts, a => by rw [spreadB, spreadB_size ts, app_size, app_size]; simp only [List.map_cons, List.sum_cons]; omega
theorem spreadB_snoc {b : ByteArray} {t : Tok} : ∀ (ts : List Tok) (a : ByteArray), spreadB b (ts ++ [t]) a = spreadB b ts a ++ (t.text ++ b)
 | [], a => rfl
 | u :: ts, a => by rw [List.cons_append, spreadB, spreadB, spreadB_snoc ts]
theorem rAll_text {s : ByteArray} : ∀ (k p : Nat) (cm : Bool) (pl : List Int) (ts : List Tok), (∀ t ∈ ts, t.text.size ≤ s.size) → ∀ t ∈ (rAll s k p cm pl ts).2.1, t.text.size ≤ s.size
 | 0, p, cm, pl, ts, h => h
 | k + 1, p, cm, pl, ts, h => by
  simp only [rAll]
  split
  ·exact h
  ·rename_i c hc
   repeat' split
   ·exact rAll_text k _ _ _ _ h
   ·exact rAll_text k _ _ _ _ h
   ·exact rAll_text k _ _ _ _ h
   ·rename_i hw
    refine rAll_text k _ _ _ _ fun t ht => ?_
    rcases List.mem_append.1 ht with ht | ht
    ·exact h t ht
    ·rw [List.mem_singleton.1 ht]; have := (rWord_size hc hw).2; omega
   ·exact h
theorem rlex_text (s : ByteArray) : ∀ t ∈ (rlex s).1, t.text.size ≤ 16384 := by
 unfold rlex
 repeat' split
 ·intro _ h; cases h
 ·intro t ht; have := rAll_text (s := s) s.size 0 false [] [] (fun _ h => by cases h) t ht; omega
 ·intro _ h; cases h
theorem sum_le {α : Type} (f : α → Nat) (n : Nat) : ∀ (l : List α), (∀ x ∈ l, f x ≤ n) → (l.map f).sum ≤ n * l.length
 | [], _ => by simp
 | x :: l, h => by
  have h1 := h x (.head _)
  have h2 := sum_le f n l (fun y hy => h y (.tail _ hy))
  simp only [List.map_cons, List.sum_cons, List.length_cons, Nat.mul_add, Nat.mul_one]
  omega
theorem spread_few {s b : ByteArray} (hb : b.size ≤ 6) (j : Nat) : (spreadB b ((rlex s).1.take j) b).size ≤ 1099511627776 := by
 rw [spreadB_size]
 have h1 := sum_le (fun t : Tok => t.text.size + b.size) 16390 ((rlex s).1.take j) (fun t ht => by have := rlex_text s t (List.mem_of_mem_take ht); omega)
 have h2 := rlex_len s
 have h3 : ((rlex s).1.take j).length ≤ 16384 := by rw [List.length_take]; omega
 have h4 : 16390 * ((rlex s).1.take j).length ≤ 16390 * 16384 := Nat.mul_le_mul_left _ h3
 omega
set_option maxHeartbeats 2000000 in
theorem parseBlanks_ok {eb : EbG} [Envs eb] [OnAll eb] (s : ByteArray) (n : Int) (hn : -9223372036854775808 ≤ n ∧ n ≤ 9223372036854775807) (H : Heap) (K : A → Heap → Prop) (hK : K (.d (.bool true)) H) : ACall Tryd.prog (seatV eb) 3 [.d (.str s), .d (.int .i64 n)] H K := by
 have hl := rlex_told s
 have hlen := rlex_len s
 have hfew := fun b (hb : ByteArray.size b ≤ 6) j => spread_few (s := s) hb j
 have htx := rlex_text s
 have hsm := rtext_srcs s
 have hto := rsource_told s
 have hsame := fun b l (hb : b ∈ blanks) (h : rlex s = (l, 0)) => blanks_same (s := s) hb h
 have hr : rpS s = rsource (rlex s).1 (rlex s).2 := rfl
 have hps := fun H => parseS_ok (eb := eb) H s
 rw [show rtext s = rpS s from rfl] at hsm
 rw [← hr] at hto
 generalize rpS s = x at hr hps hsm hto
 refine ACall.hp_start ?_
 refine ACall.by mixed fn3 (by simp) ?_
 conv in s3 => cbv
 refine svc_start ?_
 simp -dsimp only [go_sem, gS]
 refine alive02_ok _ _ ?_
 simp -dsimp only [go_sem, gS]
 refine lex_ok _ _ _ ?_
 generalize rlex s = y at hl hlen hfew htx hsame hr
 obtain ⟨l, e⟩ := y
 obtain ⟨is, e1⟩ := x
 simp only at hl hlen hfew htx hr hsm hto
 by_cases he : e = 0
 ·subst he
  have d0 : decide ((0 : Int) = 0) = true := rfl
  simp -dsimp only [go_sem, gS, d0]
  refine newV_hp (fun b35 v35 f35 w35 => ?_)
  simp only [off_cons, off_nil] at f35
  simp -dsimp only [go_sem, gS, f35]
  repeat
   refine andK_split (by decide) ?_
   simp -dsimp only [go_sem, gS, f35]
  have hm : ∃ m : Nat, m < 5 ∧ (IntKind.i64.wrap (n.tmod 5 + 5)).tmod 5 = (m : Int) := by
   have a1 := Int.tmod_lt_of_pos n (show (0 : Int) < 5 by decide)
   have a2 := Int.lt_tmod_of_pos n (show (0 : Int) < 5 by decide)
   rw [wrap64 (by omega) (by omega)]
   have b1 := Int.tmod_lt_of_pos (n.tmod 5 + 5) (show (0 : Int) < 5 by decide)
   have b2 : 0 ≤ (n.tmod 5 + 5).tmod 5 := Int.tmod_nonneg _ (by omega)
   exact ⟨((n.tmod 5 + 5).tmod 5).toNat, by omega, by omega⟩
  obtain ⟨m, hm, em⟩ := hm
  rw [em]
  clear em
  have hx : ∃ b, b ∈ blanks ∧ b.size ≤ 6 ∧ ([D.str ⟨#[32]⟩, .str ⟨#[10]⟩, .str ⟨#[32, 37, 32, 115, 111, 10]⟩, .str ⟨#[9, 9]⟩, .str ⟨#[13, 10]⟩])[m]? = some (.str b) := by
   match m, hm with
   | 0, _ => exact ⟨_, by simp [blanks], by decide, rfl⟩
   | 1, _ => exact ⟨_, by simp [blanks], by decide, rfl⟩
   | 2, _ => exact ⟨_, by simp [blanks], by decide, rfl⟩
   | 3, _ => exact ⟨_, by simp [blanks], by decide, rfl⟩
   | 4, _ => exact ⟨_, by simp [blanks], by decide, rfl⟩
  obtain ⟨b, hb, hb6, hx⟩ := hx
  refine andK_split (by omega) ?_
  simp -dsimp only [go_sem, gS, f35]
  refine andK_split hm ?_
  simp -dsimp only [go_sem, gS, f35, hx]
  have hfew := hfew b hb6
  have s0 : spreadB b [] b = b := by rw [spreadB]
  have hsame := hsame b l hb rfl
  refine svc_loop (X := Nat) (fun j => [(0, .d (.str s)), (9, .d (.str b)), (10, .d (.str (spreadB b (l.take j) b))), (43, .d (.slice (l.map Tok.d))), (44, .d (.int .i64 l.length)), (45, .d (.int .i64 j))])
   (fun j G => G = hp H [] ∧ j ≤ l.length) (fun j => l.length - j) 0 (hp H []) ⟨rfl, Nat.zero_le _⟩ (by simp -dsimp only [go_sem, gS, s0]) (leH_hp0 (by simp only [hpS, eq_self, implies_true, f35])) ?_
  rintro j G ⟨hG, hj⟩
  rw [hG]
  simp -dsimp only [go_sem, gS]
  refine gif_split (fun q => ?_) (fun q => ?_)
  ·have q' : j < l.length := by have := of_decide_eq_true q; omega
   have hw := wrapN (k := j) (by omega)
   obtain ⟨u, hu⟩ : ∃ u, l[j]? = some u := ⟨_, List.getElem?_eq_getElem q'⟩
   have hut := htx u (List.mem_of_getElem? hu)
   have hsz := hfew j
   have hnx : l.take (j + 1) = l.take j ++ [u] := by rw [List.take_add_one, hu]; rfl
   obtain ⟨uk, ut, ui⟩ := u
   simp only at hut
   have hs1 : spreadB b (l.take (j + 1)) b = spreadB b (l.take j) b ++ (ut ++ b) := by rw [hnx, spreadB_snoc]
   simp -dsimp only [go_sem, gS, q, hu, Tok.d, Tok.cs]
   refine newK_hp (fun b12 f12 => ?_)
   simp only [off_cons, off_nil] at f12
   simp -dsimp only [go_sem, gS, f12]
   refine andK_split (by omega) ?_
   simp -dsimp only [go_sem, gS, f12]
   refine andK_split (by omega) ?_
   simp -dsimp only [go_sem, gS, f12, hw]
   refine roundQ_next (j + 1) _ ⟨rfl, by omega⟩ (by omega) (by simp -dsimp only [go_sem, gS, hs1]) (leH_hp0 (by simp only [hpS, eq_self, implies_true, f12]))
  ·have q' : j = l.length := by have := of_decide_eq_false q; omega
   subst q'
   have ht : l.take l.length = l := List.take_length
   simp -dsimp only [go_sem, gS, q, ht]
   refine gif_split (fun q2 => ?_) (fun q2 => ?_)
   ·simp -dsimp only [go_sem, gS]
    exact retW_is hK
   ·have q2' : (spreadB b l b).size ≤ 16384 := by have := of_decide_eq_false q2; omega
    have hz : rpS (spreadB b l b) = (is, e1) := by
     rw [hr]
     show rsource (rlex (spreadB b l b)).1 (rlex (spreadB b l b)).2 = _
     rw [hsame q2']
    simp -dsimp only [go_sem, gS]
    refine hps _ _ ?_
    simp -dsimp only [go_sem, gS]
    refine parseS_ok _ _ _ ?_
    rw [hz]
    simp -dsimp only [go_sem, gS]
    refine numD_ok e1 (le4 hto) _ _ ?_
    simp -dsimp only [go_sem, gS]
    refine numD_ok e1 (le4 hto) _ _ ?_
    simp -dsimp only [go_sem, gS, decide_true]
    refine sameItems_self is (by have := hsm.len; omega) hsm.small _ _ ?_
    simp -dsimp only [go_sem, gS]
    exact retW_is hK
 ·have d0 : decide (e = 0) = false := decide_eq_false he
  rw [rsource_err he] at hr
  obtain ⟨rfl, rfl⟩ := Prod.mk.inj hr
  simp -dsimp only [go_sem, gS, d0]
  refine hps _ _ ?_
  simp -dsimp only [go_sem, gS]
  refine numD_ok e1 (le4 hto) _ _ ?_
  simp -dsimp only [go_sem, gS, decide_true]
  exact retW_is hK
end Go.Aug
