/- Forms, their bytes and tokens, lexed and read back; no conditions but those in each theorem. -/
import Derived.Test.YthldjffimcngaaaGreatDoorPiecesOne
import Derived.Test.YthldjffimcngaaaGreatDoorGrammarOne
import Derived.Lib.Join
import Derived.Test.YthldjffimcngaaaGreatDoorAugFour
set_option linter.all false
set_option linter.unusedVariables false
set_option linter.unusedSimpArgs false
set_option linter.unusedSectionVars false

/- Plain: forms of terms, types, goals: their bytes, their tokens, and that the bytes are lexed as the tokens. -/
namespace Go.Aug
set_option maxRecDepth 100000
set_option linter.unusedSimpArgs false
set_option linter.unusedVariables false
def IsTk (t : Tok) : Prop := ∃ c w, TokIs t c w
def Soft (r : List UInt8) : Prop := ∀ x, r.head? = some x → isWd x = false
def LexP (bs : List UInt8) (ts : List Tok) : Prop := ∀ rest tr, Soft rest → Lexed false rest tr → Lexed false (bs ++ rest) (ts ++ tr)
theorem soft_cons {c : UInt8} {r : List UInt8} (h : isWd c = false) : Soft (c :: r) := fun x hx => by cases hx; exact h
theorem LexP.nil : LexP [] [] := fun _ _ _ h => h
theorem LexP.app {a b : List UInt8} {ta tb : List Tok} (ha : LexP a ta) (hb : LexP b tb) (h : ∀ r, Soft r → Soft (b ++ r)) : LexP (a ++ b) (ta ++ tb) := fun r tr hr hl => by
 rw [List.append_assoc, List.append_assoc]
 exact ha _ _ (h r hr) (hb r tr hr hl)
theorem LexP.sp {b : List UInt8} {tb : List Tok} (hb : LexP b tb) : LexP (32 :: b) tb := fun r tr hr hl => .blank (c := 32) (by decide) (hb r tr hr hl)
theorem LexP.tok {t : Tok} {c : UInt8} {w : List UInt8} (h : TokIs t c w) : LexP (c :: w) [t] := fun r tr hr hl => .tok h (.inr hr) hl
theorem LexP.mark {t : Tok} {c : UInt8} {w b : List UInt8} {tb : List Tok} (h : TokIs t c w) (h4 : t.kind = 4) (hb : LexP b tb) : LexP ((c :: w) ++ b) (t :: tb) := fun r tr hr hl => by
 rw [List.append_assoc]
 exact .tok h (.inl h4) (hb r tr hr hl)
theorem isTk_lex {t : Tok} (h : IsTk t) : LexP t.text.data.toList [t] := by
 obtain ⟨c, w, h⟩ := h
 rw [show t.text.data.toList = c :: w by rw [h.text]]
 exact .tok h
theorem mark_is {c : UInt8} (hb : isBlank c = false) (h37 : ¬ (c.toNat : Int) = 37) (hl : isLet c = false) (hd : isDig c = false) (h45 : ¬ (c.toNat : Int) = 45) (h58 : ¬ (c.toNat : Int) = 58) (hm : kMarks.contains c.toNat = true) : TokIs ⟨4, ⟨#[c]⟩, 0⟩ c [] :=
 ⟨rfl, hb, h37, fun s p r hs _ => by
  unfold rWord
  have e := ba_extract (a := [c]) hs
  simp only [List.length_cons, List.length_nil, Nat.zero_add] at e
  rw [if_neg (by rw [hl]; exact Bool.false_ne_true), if_neg (by rw [hd]; intro hh; rcases hh with hh | hh; cases hh; exact h45 hh), if_neg (fun hh => h58 hh.1), if_pos hm, e]⟩
theorem word_is {c : UInt8} {w : List UInt8} (hc : isLet c = true) (hw : ∀ x ∈ w, isWd x = true) (hn : w.length + 1 ≤ 32) : TokIs ⟨if isSmall c = true then 1 else 2, ⟨⟨c :: w⟩⟩, 0⟩ c w := by
 have h3 : 65 ≤ (c.toNat : Int) := by
  simp only [isLet, isSmall, Bool.or_eq_true, Bool.and_eq_true, decide_eq_true_eq] at hc
  omega
 refine ⟨rfl, by simp [isBlank]; omega, by omega, fun s p r hs hr => ?_⟩
 have hr' : ∀ x, r.head? = some x → isWd x = false := by
  rcases hr with hr | hr
  ·simp only at hr; split at hr <;> cases hr
  ·exact hr
 unfold rWord
 rw [if_pos hc, wordAl]
 have hsz : w.length + 1 ≤ s.size := by
  have := congrArg List.length hs
  simp only [List.length_drop, List.length_append, List.length_cons, Array.length_toList] at this
  show w.length + 1 ≤ s.data.size
  omega
 have e := runTo_at (q := fun c => isLet c || isDig c) (s := s) (c :: w) r s.size p hs (fun x hx => by
  rcases List.mem_cons.1 hx with rfl | hx
  ·simp [hc]
  ·exact hw x hx) hr' (by simpa using hsz)
 rw [e, ba_extract hs]
 congr 1
 simp only [List.length_cons, decide_eq_true_eq]
 omega
theorem kw_is {c : UInt8} {w : List UInt8} (hc : isSmall c = true) (hw : (w.all isWd) = true) (hn : w.length + 1 ≤ 32) : TokIs ⟨1, ⟨⟨c :: w⟩⟩, 0⟩ c w := by
 have := word_is (c := c) (w := w) (by simp [isLet, hc]) (fun x hx => List.all_eq_true.1 hw x hx) hn
 rwa [if_pos hc] at this
theorem if_is : TokIs ⟨4, kIf, 0⟩ 58 [45] := ⟨rfl, by decide, by decide, fun s p r hs _ => by
 have hb1 := ba_at (ba_drop (a := [58]) hs)
 unfold rWord
 rw [if_neg (by decide), if_neg (by decide), if_pos ⟨by decide, hb1.2, by simp only [byteIs]; rw [show p + 1 = p + [(58 : UInt8)].length from rfl, hb1.1]; decide⟩]
 rfl⟩
def tokSemi : Tok := ⟨4, ⟨#[59]⟩, 0⟩
def tokEq : Tok := ⟨4, ⟨#[61]⟩, 0⟩
def tokBar : Tok := ⟨4, ⟨#[124]⟩, 0⟩
def tokIf : Tok := ⟨4, kIf, 0⟩
theorem comma_is : TokIs tokComma 44 [] := mark_is (by decide) (by decide) (by decide) (by decide) (by decide) (by decide) (by decide)
theorem semi_is : TokIs tokSemi 59 [] := mark_is (by decide) (by decide) (by decide) (by decide) (by decide) (by decide) (by decide)
theorem eq_is : TokIs tokEq 61 [] := mark_is (by decide) (by decide) (by decide) (by decide) (by decide) (by decide) (by decide)
theorem bar_is : TokIs tokBar 124 [] := mark_is (by decide) (by decide) (by decide) (by decide) (by decide) (by decide) (by decide)
theorem dot_is : TokIs tokDot 46 [] := mark_is (by decide) (by decide) (by decide) (by decide) (by decide) (by decide) (by decide)
def tailK (m : Tok) : List (List Tok) → List Tok
 | [] => []
 | w :: l => m :: (w ++ tailK m l)
def joinK (m : Tok) : List (List Tok) → List Tok
 | [] => []
 | w :: l => w ++ tailK m l
def rowT : List (List UInt8) → List UInt8
 | [] => []
 | w :: l => 40 :: (Lib.join (w :: l) [44, 32] ++ [41])
def rowKs : List (List Tok) → List Tok
 | [] => []
 | w :: l => tokOpen :: (joinK tokComma (w :: l) ++ [tokClose])
inductive LexL : List (List UInt8) → List (List Tok) → Prop
 | nil : LexL [] []
 | cons {a : List UInt8} {t : List Tok} {l : List (List UInt8)} {k : List (List Tok)} (h : LexP a t) (r : LexL l k) : LexL (a :: l) (t :: k)
theorem joinTail_cons (sep x : List UInt8) (r : List (List UInt8)) : Lib.joinTail sep (x :: r) = sep ++ (x ++ Lib.joinTail sep r) := by simp [Lib.joinTail]
theorem LexL.tail {sep : List UInt8} {m : Tok} (hs : ∀ {b tb}, LexP b tb → LexP (sep ++ b) (m :: tb)) (hf : ∀ r, Soft (sep ++ r)) {ws : List (List UInt8)} {ks : List (List Tok)} (h : LexL ws ks) : LexP (Lib.joinTail sep ws) (tailK m ks) ∧ ∀ r, Soft r → Soft (Lib.joinTail sep ws ++ r) := by
 induction h with
 | nil => exact ⟨.nil, fun r hr => hr⟩
 | cons h _ ih =>
  rw [joinTail_cons, tailK]
  exact ⟨hs (h.app ih.1 ih.2), fun r _ => by rw [List.append_assoc]; exact hf _⟩
theorem LexL.join {sep : List UInt8} {m : Tok} (hs : ∀ {b tb}, LexP b tb → LexP (sep ++ b) (m :: tb)) (hf : ∀ r, Soft (sep ++ r)) {ws : List (List UInt8)} {ks : List (List Tok)} (h : LexL ws ks) : LexP (Lib.join ws sep) (joinK m ks) := by
 cases h with
 | nil => exact .nil
 | cons h r =>
  rw [Lib.join_cons, joinK]
  exact h.app (r.tail hs hf).1 (r.tail hs hf).2
theorem sep_comma {b : List UInt8} {tb : List Tok} (h : LexP b tb) : LexP ([44, 32] ++ b) (tokComma :: tb) := .mark (w := []) comma_is rfl h.sp
theorem soft_comma (r : List UInt8) : Soft ([44, 32] ++ r) := soft_cons (by decide)
theorem sep_semi {b : List UInt8} {tb : List Tok} (h : LexP b tb) : LexP ([32, 59, 32] ++ b) (tokSemi :: tb) := .sp (.mark (w := []) semi_is rfl h.sp)
theorem soft_semi (r : List UInt8) : Soft ([32, 59, 32] ++ r) := soft_cons (by decide)
theorem sep_bar {b : List UInt8} {tb : List Tok} (h : LexP b tb) : LexP ([32, 124, 32] ++ b) (tokBar :: tb) := .sp (.mark (w := []) bar_is rfl h.sp)
theorem soft_bar (r : List UInt8) : Soft ([32, 124, 32] ++ r) := soft_cons (by decide)
theorem close_lex : LexP [41] [tokClose] := .mark (w := []) (b := []) tokClose_is rfl .nil
theorem LexL.row {ws : List (List UInt8)} {ks : List (List Tok)} (h : LexL ws ks) : LexP (rowT ws) (rowKs ks) ∧ ∀ r, Soft r → Soft (rowT ws ++ r) := by
 cases h with
 | nil => exact ⟨.nil, fun r hr => hr⟩
 | cons h r => exact ⟨.mark (w := []) tokOpen_is rfl ((LexL.cons h r).join sep_comma soft_comma |>.app close_lex (fun _ _ => soft_cons (by decide))), fun _ _ => soft_cons (by decide)⟩
def itoaB (i : Int) : ByteArray := ⟨(Lib.itoa i).toArray⟩
mutual
def Tm.t : Tm → List UInt8
 | .mk k n i args => (if k = 2 then Lib.itoa i else n.data.toList) ++ rowT (Tm.ts args)
def Tm.ts : List Tm → List (List UInt8)
 | [] => []
 | t :: l => t.t :: Tm.ts l
end
mutual
def Tm.toks : Tm → List Tok
 | .mk k n i args => (if k = 2 then ⟨3, itoaB i, i⟩ else if k = 1 then ⟨2, n, 0⟩ else ⟨1, n, 0⟩) :: rowKs (Tm.tokss args)
def Tm.tokss : List Tm → List (List Tok)
 | [] => []
 | t :: l => t.toks :: Tm.tokss l
end
mutual
def Tm.good : Nat → Tm → Prop
 | d, .mk k n i args => d ≤ 64 ∧ ((k = 1 ∧ IsTk ⟨2, n, 0⟩ ∧ i = 0 ∧ args = []) ∨ (k = 2 ∧ n = ⟨#[]⟩ ∧ IsTk ⟨3, itoaB i, i⟩ ∧ args = []) ∨ (k = 3 ∧ i = 0 ∧ IsTk ⟨1, n, 0⟩ ∧ isReserved n = false ∧ args.length ≤ 8 ∧ Tm.goods (d + 1) args))
def Tm.goods : Nat → List Tm → Prop
 | _, [] => True
 | d, t :: l => t.good d ∧ Tm.goods d l
end
theorem Tm.goods_mem {d : Nat} : ∀ {l : List Tm}, Tm.goods d l → ∀ t ∈ l, t.good d
 | _ :: _, h, _, .head _ => h.1
 | _ :: _, h, t, .tail _ ht => Tm.goods_mem h.2 t ht
theorem Tm.goods_of {d : Nat} : ∀ {l : List Tm}, (∀ t ∈ l, t.good d) → Tm.goods d l
 | [], _ => trivial
 | t :: l, h => ⟨h t (.head _), Tm.goods_of fun x hx => h x (.tail _ hx)⟩
mutual
theorem Tm.lex : ∀ (t : Tm) (d : Nat), t.good d → LexP t.t t.toks
 | .mk k n i args, d, ⟨_, h⟩ => by
  rw [Tm.t, Tm.toks]
  rcases h with ⟨rfl, h1, rfl, rfl⟩ | ⟨rfl, rfl, h1, rfl⟩ | ⟨rfl, rfl, h1, _, _, h2⟩
  ·rw [if_neg (by decide), if_neg (by decide), if_pos rfl]
   simpa [Tm.ts, Tm.tokss, rowT, rowKs] using isTk_lex h1
  ·rw [if_pos rfl, if_pos rfl]
   have := isTk_lex h1
   simpa [Tm.ts, Tm.tokss, rowT, rowKs, itoaB] using this
  ·rw [if_neg (by decide), if_neg (by decide), if_neg (by decide)]
   have hr := (Tm.lexs args (d + 1) h2).row
   exact (isTk_lex h1).app hr.1 hr.2
theorem Tm.lexs : ∀ (l : List Tm) (d : Nat), Tm.goods d l → LexL (Tm.ts l) (Tm.tokss l)
 | [], _, _ => .nil
 | t :: l, d, ⟨h1, h2⟩ => .cons (Tm.lex t d h1) (Tm.lexs l d h2)
end
mutual
def Ty.t : Ty → List UInt8
 | .mk _ n args => n.data.toList ++ rowT (Ty.ts args)
def Ty.ts : List Ty → List (List UInt8)
 | [] => []
 | t :: l => t.t :: Ty.ts l
end
mutual
def Ty.toks : Ty → List Tok
 | .mk v n args => (if v = true then ⟨2, n, 0⟩ else ⟨1, n, 0⟩) :: rowKs (Ty.tokss args)
def Ty.tokss : List Ty → List (List Tok)
 | [] => []
 | t :: l => t.toks :: Ty.tokss l
end
mutual
def Ty.good : Nat → Ty → Prop
 | d, .mk v n args => d ≤ 64 ∧ ((v = true ∧ IsTk ⟨2, n, 0⟩ ∧ args = []) ∨ (v = false ∧ n = kInt ∧ args = []) ∨ (v = false ∧ IsTk ⟨1, n, 0⟩ ∧ isReserved n = false ∧ args.length ≤ 8 ∧ Ty.goods (d + 1) args))
def Ty.goods : Nat → List Ty → Prop
 | _, [] => True
 | d, t :: l => t.good d ∧ Ty.goods d l
end
theorem Ty.goods_mem {d : Nat} : ∀ {l : List Ty}, Ty.goods d l → ∀ t ∈ l, t.good d
 | _ :: _, h, _, .head _ => h.1
 | _ :: _, h, t, .tail _ ht => Ty.goods_mem h.2 t ht
theorem Ty.goods_of {d : Nat} : ∀ {l : List Ty}, (∀ t ∈ l, t.good d) → Ty.goods d l
 | [], _ => trivial
 | t :: l, h => ⟨h t (.head _), Ty.goods_of fun x hx => h x (.tail _ hx)⟩
theorem int_is : TokIs ⟨1, kInt, 0⟩ 105 [110, 116] := kw_is (by decide) (by decide) (by decide)
mutual
theorem Ty.lex : ∀ (t : Ty) (d : Nat), t.good d → LexP t.t t.toks
 | .mk v n args, d, ⟨_, h⟩ => by
  rw [Ty.t, Ty.toks]
  rcases h with ⟨rfl, h1, rfl⟩ | ⟨rfl, rfl, rfl⟩ | ⟨rfl, h1, _, _, h2⟩
  ·rw [if_pos rfl]
   simpa [Ty.ts, Ty.tokss, rowT, rowKs] using isTk_lex h1
  ·rw [if_neg (by decide)]
   have := isTk_lex ⟨_, _, int_is⟩
   simpa [Ty.ts, Ty.tokss, rowT, rowKs] using this
  ·rw [if_neg (by decide)]
   have hr := (Ty.lexs args (d + 1) h2).row
   exact (isTk_lex h1).app hr.1 hr.2
theorem Ty.lexs : ∀ (l : List Ty) (d : Nat), Ty.goods d l → LexL (Ty.ts l) (Ty.tokss l)
 | [], _, _ => .nil
 | t :: l, d, ⟨h1, h2⟩ => .cons (Ty.lex t d h1) (Ty.lexs l d h2)
end
def Gl.kind : Gl → Int
 | .mk k .. => k
def loose (kind k : Int) : Bool := k == 6 || k == 5 && kind != 6
def brT (b : Bool) (s : List UInt8) : List UInt8 := if b then 40 :: (s ++ [41]) else s
def brK (b : Bool) (s : List Tok) : List Tok := if b then tokOpen :: (s ++ [tokClose]) else s
def kw (w : ByteArray) : Tok := ⟨1, w, 0⟩
mutual
def Gl.t : Gl → List UInt8
 | .mk k a b n args gs =>
  if k = 1 then [116, 114, 117, 101] else if k = 2 then [102, 97, 105, 108] else if k = 3 then a.t ++ [32, 61, 32] ++ b.t else if k = 4 then n.data.toList ++ rowT (Tm.ts args)
  else if k = 5 then Lib.join (Gl.ws k gs) [44, 32] else if k = 6 then Lib.join (Gl.ws k gs) [32, 59, 32]
  else if k = 7 then [110, 111, 116, 32] ++ (Gl.ws k gs).getD 0 [] else if k = 8 then [116, 104, 114, 111, 119, 32] ++ a.t
  else if k = 9 then [116, 114, 121, 32] ++ (Gl.ws k gs).getD 0 [] ++ [32, 99, 97, 116, 99, 104, 32] ++ n.data.toList ++ [32, 116, 104, 101, 110, 32] ++ (Gl.ws k gs).getD 1 [] else []
def Gl.ws : Int → List Gl → List (List UInt8)
 | _, [] => []
 | k, g :: gs => brT (loose k g.kind) g.t :: Gl.ws k gs
end
mutual
def Gl.toks : Gl → List Tok
 | .mk k a b n args gs =>
  if k = 1 then [kw kTrue] else if k = 2 then [kw kFail] else if k = 3 then a.toks ++ tokEq :: b.toks else if k = 4 then kw n :: rowKs (Tm.tokss args)
  else if k = 5 then joinK tokComma (Gl.ks k gs) else if k = 6 then joinK tokSemi (Gl.ks k gs)
  else if k = 7 then kw kNot :: (Gl.ks k gs).getD 0 [] else if k = 8 then kw kThrow :: a.toks
  else if k = 9 then kw kTry :: ((Gl.ks k gs).getD 0 [] ++ kw kCatch :: ⟨2, n, 0⟩ :: kw kThen :: (Gl.ks k gs).getD 1 []) else []
def Gl.ks : Int → List Gl → List (List Tok)
 | _, [] => []
 | k, g :: gs => brK (loose k g.kind) g.toks :: Gl.ks k gs
end
mutual
def Gl.good : Nat → Gl → Prop
 | d, .mk k a b n args gs =>
  (k = 1 ∧ d ≤ 64 ∧ a = .none ∧ b = .none ∧ n = ⟨#[]⟩ ∧ args = [] ∧ gs = []) ∨ (k = 2 ∧ d ≤ 64 ∧ a = .none ∧ b = .none ∧ n = ⟨#[]⟩ ∧ args = [] ∧ gs = [])
  ∨ (k = 3 ∧ d ≤ 64 ∧ a.good (d + 1) ∧ b.good (d + 1) ∧ n = ⟨#[]⟩ ∧ args = [] ∧ gs = []) ∨ (k = 4 ∧ d ≤ 64 ∧ a = .none ∧ b = .none ∧ (Tm.mk 3 n 0 args).good (d + 1) ∧ gs = [])
  ∨ ((k = 5 ∨ k = 6) ∧ a = .none ∧ b = .none ∧ n = ⟨#[]⟩ ∧ args = [] ∧ 2 ≤ gs.length ∧ Gl.goods k d gs) ∨ (k = 7 ∧ d ≤ 64 ∧ a = .none ∧ b = .none ∧ n = ⟨#[]⟩ ∧ args = [] ∧ gs.length = 1 ∧ Gl.goods k (d + 1) gs)
  ∨ (k = 8 ∧ d ≤ 64 ∧ a.good (d + 1) ∧ b = .none ∧ n = ⟨#[]⟩ ∧ args = [] ∧ gs = []) ∨ (k = 9 ∧ d ≤ 64 ∧ a = .none ∧ b = .none ∧ IsTk ⟨2, n, 0⟩ ∧ args = [] ∧ gs.length = 2 ∧ Gl.goods k (d + 1) gs)
def Gl.goods : Int → Nat → List Gl → Prop
 | _, _, [] => True
 | k, d, g :: gs => (if loose k g.kind = true then d ≤ 64 ∧ g.good (d + 1) else g.good d) ∧ Gl.goods k d gs
end
theorem br_lex {b : Bool} {s : List UInt8} {t : List Tok} (h : LexP s t) : LexP (brT b s) (brK b t) := by
 cases b with
 | false => exact h
 | true => exact .mark (w := []) tokOpen_is rfl (h.app close_lex (fun _ _ => soft_cons (by decide)))
theorem kw_lex {c : UInt8} {w b : List UInt8} {tb : List Tok} (hc : isSmall c = true) (hw : (w.all isWd) = true) (hn : w.length + 1 ≤ 32) (hb : LexP b tb) : LexP ((c :: w) ++ 32 :: b) (⟨1, ⟨⟨c :: w⟩⟩, 0⟩ :: tb) :=
 (LexP.tok (kw_is hc hw hn)).app hb.sp (fun _ _ => soft_cons (by decide))
theorem kw1_lex {c : UInt8} {w : List UInt8} (hc : isSmall c = true) (hw : (w.all isWd) = true) (hn : w.length + 1 ≤ 32) : LexP (c :: w) [⟨1, ⟨⟨c :: w⟩⟩, 0⟩] := .tok (kw_is hc hw hn)
mutual
theorem Gl.lex : ∀ (g : Gl) (d : Nat), g.good d → LexP g.t g.toks
 | .mk k a b n args gs, d, h => by
  rw [Gl.t, Gl.toks]
  rcases h with ⟨rfl, _⟩ | ⟨rfl, _⟩ | ⟨rfl, _, ha, hb, _⟩ | ⟨rfl, _, _, _, hc, _⟩ | ⟨hk, _, _, _, _, _, hg⟩ | ⟨rfl, _, _, _, _, _, hl, hg⟩ | ⟨rfl, _, ha, _⟩ | ⟨rfl, _, _, _, hn, _, hl, hg⟩
  ·simp only [if_true]
   exact kw1_lex (c := 116) (w := [114, 117, 101]) (by decide) (by decide) (by decide)
  ·simp only [show ¬ (2 : Int) = 1 by decide, if_false, if_true]
   exact kw1_lex (c := 102) (w := [97, 105, 108]) (by decide) (by decide) (by decide)
  ·simp only [show ¬ (3 : Int) = 1 by decide, show ¬ (3 : Int) = 2 by decide, if_false, if_true]
   rw [List.append_assoc]
   exact (Tm.lex a _ ha).app (.sp (.mark (w := []) eq_is rfl (Tm.lex b _ hb).sp)) (fun _ _ => soft_cons (by decide))
  ·simp only [show ¬ (4 : Int) = 1 by decide, show ¬ (4 : Int) = 2 by decide, show ¬ (4 : Int) = 3 by decide, if_false, if_true]
   have := Tm.lex _ _ hc
   rw [Tm.t, Tm.toks, if_neg (by decide), if_neg (by decide), if_neg (by decide)] at this
   exact this
  ·rcases hk with rfl | rfl
   ·simp only [show ¬ (5 : Int) = 1 by decide, show ¬ (5 : Int) = 2 by decide, show ¬ (5 : Int) = 3 by decide, show ¬ (5 : Int) = 4 by decide, if_false, if_true]
    exact (Gl.lexs gs 5 d hg).join sep_comma soft_comma
   ·simp only [show ¬ (6 : Int) = 1 by decide, show ¬ (6 : Int) = 2 by decide, show ¬ (6 : Int) = 3 by decide, show ¬ (6 : Int) = 4 by decide, show ¬ (6 : Int) = 5 by decide, if_false, if_true]
    exact (Gl.lexs gs 6 d hg).join sep_semi soft_semi
  ·simp only [show ¬ (7 : Int) = 1 by decide, show ¬ (7 : Int) = 2 by decide, show ¬ (7 : Int) = 3 by decide, show ¬ (7 : Int) = 4 by decide, show ¬ (7 : Int) = 5 by decide, show ¬ (7 : Int) = 6 by decide, if_false, if_true]
   match gs, hl, Gl.lexs gs 7 (d + 1) hg with
   | [g], _, .cons h _ => exact kw_lex (c := 110) (w := [111, 116]) (by decide) (by decide) (by decide) h
  ·simp only [show ¬ (8 : Int) = 1 by decide, show ¬ (8 : Int) = 2 by decide, show ¬ (8 : Int) = 3 by decide, show ¬ (8 : Int) = 4 by decide, show ¬ (8 : Int) = 5 by decide, show ¬ (8 : Int) = 6 by decide, show ¬ (8 : Int) = 7 by decide, if_false, if_true]
   exact kw_lex (c := 116) (w := [104, 114, 111, 119]) (by decide) (by decide) (by decide) (Tm.lex a _ ha)
  ·simp only [show ¬ (9 : Int) = 1 by decide, show ¬ (9 : Int) = 2 by decide, show ¬ (9 : Int) = 3 by decide, show ¬ (9 : Int) = 4 by decide, show ¬ (9 : Int) = 5 by decide, show ¬ (9 : Int) = 6 by decide, show ¬ (9 : Int) = 7 by decide, show ¬ (9 : Int) = 8 by decide, if_false, if_true]
   match gs, hl, Gl.lexs gs 9 (d + 1) hg with
   | [g1, g2], _, .cons h1 (.cons h2 _) =>
    have e2 := kw_lex (c := 116) (w := [104, 101, 110]) (by decide) (by decide) (by decide) h2
    have e3 := kw_lex (c := 99) (w := [97, 116, 99, 104]) (by decide) (by decide) (by decide) ((isTk_lex hn).app e2.sp (fun _ _ => soft_cons (by decide)))
    have e4 := kw_lex (c := 116) (w := [114, 121]) (by decide) (by decide) (by decide) (h1.app e3.sp (fun _ _ => soft_cons (by decide)))
    have hb : [116, 114, 121, 32] ++ (Gl.ws 9 [g1, g2]).getD 0 [] ++ [32, 99, 97, 116, 99, 104, 32] ++ n.data.toList ++ [32, 116, 104, 101, 110, 32] ++ (Gl.ws 9 [g1, g2]).getD 1 []
      = [116, 114, 121] ++ 32 :: (brT (loose 9 g1.kind) g1.t ++ 32 :: ([99, 97, 116, 99, 104] ++ 32 :: (n.data.toList ++ 32 :: ([116, 104, 101, 110] ++ 32 :: brT (loose 9 g2.kind) g2.t)))) := by
     simp [Gl.ws]
    rw [hb]
    exact e4
theorem Gl.lexs : ∀ (l : List Gl) (k : Int) (d : Nat), Gl.goods k d l → LexL (Gl.ws k l) (Gl.ks k l)
 | [], _, _, _ => .nil
 | g :: l, k, d, ⟨h1, h2⟩ => by
  refine .cons (br_lex ?_) (Gl.lexs l k d h2)
  split at h1
  ·exact Gl.lex g _ h1.2
  ·exact Gl.lex g _ h1
end

theorem tk_name {n : ByteArray} (h : IsTk ⟨1, n, 0⟩) : IsName n := by
 obtain ⟨c, w, h⟩ := h
 have hw := h.word ⟨⟨c :: w⟩⟩ 0 [] (by simp) (.inr (fun x hx => by cases hx))
 have hc : (⟨⟨c :: w⟩⟩ : ByteArray)[0]? = some c := by rw [ba_list]; rfl
 have := rWord_name hc (by rw [hw]) (by rw [hw])
 rw [hw] at this
 exact this
theorem name_not {n : ByteArray} (h : IsName n) {c : UInt8} {w : List UInt8} {m : ByteArray} (hm : m.data.toList = c :: w) (hc : isSmall c = false) : n ≠ m := by
 rintro rfl
 obtain ⟨c', w', e, h1, _⟩ := h
 rw [hm] at e
 obtain ⟨rfl, _⟩ := List.cons.inj e
 rw [hc] at h1; cases h1
def NoOpen (b : List Tok) : Prop := ∀ t r, b = t :: r → ¬ Stands t ⟨#[40]⟩
def FolP (b : List Tok) : Prop := ∀ t r, b = t :: r → ¬ Stands t ⟨#[40]⟩ ∧ ¬ Stands t kEq
def NotNext (m : ByteArray) (b : List Tok) : Prop := ∀ t r, b = t :: r → ¬ Stands t m
theorem FolP.op {b : List Tok} (h : FolP b) : NoOpen b := fun t r e => (h t r e).1
theorem FolP.eq {b : List Tok} (h : FolP b) : NotNext kEq b := fun t r e => (h t r e).2
theorem folP_cons {t : Tok} {r : List Tok} (h1 : ¬ Stands t ⟨#[40]⟩) (h2 : ¬ Stands t kEq) : FolP (t :: r) := fun t' r' e => by obtain ⟨rfl, _⟩ := List.cons.inj e; exact ⟨h1, h2⟩
theorem not_cons {m : ByteArray} {t : Tok} {r : List Tok} (h : ¬ Stands t m) : NotNext m (t :: r) := fun t' r' e => by obtain ⟨rfl, _⟩ := List.cons.inj e; exact h
theorem not_text {t : Tok} {m : ByteArray} (h : t.text ≠ m) : ¬ Stands t m := fun hh => h hh.1
theorem not_kind {t : Tok} {m : ByteArray} (h : t.kind ≠ 1) (h4 : t.kind ≠ 4) : ¬ Stands t m := fun hh => hh.2.elim h h4
theorem Par.got0 {l b : List Tok} {m : ByteArray} (h : NotNext m b) : Par l (rgot l m) b false b := by
 cases b with
 | nil => exact Par.gotEnd
 | cons t r => exact Par.gotNo (h t r rfl)
theorem Par.seq {α β : Type} {l a b c : List Tok} {f : RdS → α × RdS} {g : RdS → β × RdS} {x : α} {y : β} (h1 : Par l f a x b) (h2 : Par l g b y c) (p : Nat) (hp : l.drop p = a) : ∃ q r, f ⟨p, 0⟩ = (x, ⟨q, 0⟩) ∧ g ⟨q, 0⟩ = (y, ⟨r, 0⟩) ∧ l.drop r = c := by
 obtain ⟨q, e1, e2⟩ := h1 p hp
 obtain ⟨r, e3, e4⟩ := h2 q e2
 exact ⟨q, r, e1, e3, e4⟩
theorem tail_next {m : Tok} (ks : List (List Tok)) (b : List Tok) : ∃ t r, tailK m ks ++ tokClose :: b = t :: r ∧ (t = m ∨ t = tokClose) := by
 cases ks with
 | nil => exact ⟨_, _, rfl, .inr rfl⟩
 | cons w l => exact ⟨_, _, rfl, .inl rfl⟩
theorem Tail.of {α : Type} {l : List Tok} {f : RdS → α × RdS} {tk : α → List Tok} (b : List Tok) : ∀ (ys : List α), (∀ y ∈ ys, ∀ t r, (t = tokComma ∨ t = tokClose) → Par l f (tk y ++ t :: r) y (t :: r)) → Tail l f (tailK tokComma (ys.map tk) ++ tokClose :: b) ys b
 | [], _ => .close b
 | y :: ys, h => by
  obtain ⟨t, r, e, ht⟩ := tail_next (m := tokComma) (ys.map tk) b
  have h2 := Tail.of b ys fun x hx => h x (.tail _ hx)
  rw [List.map_cons, tailK, List.cons_append, List.append_assoc]
  refine .comma (c := tailK tokComma (ys.map tk) ++ tokClose :: b) ?_ h2
  rw [e]
  exact h y (.head _) t r ht
theorem Par.rowOf {α : Type} {l : List Tok} {f : RdS → α × RdS} {tk : α → List Tok} {b : List Tok} (ys : List α) (h8 : ys.length ≤ 8) (h : ∀ y ∈ ys, ∀ t r, (t = tokComma ∨ t = tokClose) → Par l f (tk y ++ t :: r) y (t :: r)) (hb : NoOpen b) : Par l (rargs f l 10 []) (rowKs (ys.map tk) ++ b) ys b := by
 cases ys with
 | nil =>
  show Par l (rargs f l 10 []) b [] b
  intro p hp
  obtain ⟨q, e, hq⟩ := Par.got0 (l := l) (m := ⟨#[40]⟩) (b := b) hb p hp
  have e2 := rgot_false (l := l) (t := ⟨#[40]⟩) (s := ⟨p, 0⟩) (by rw [e])
  refine ⟨p, ?_, hp⟩
  rw [e] at e2
  have e3 : (⟨q, 0⟩ : RdS) = ⟨p, 0⟩ := e2
  simp only [rargs, if_true, rmore, List.length_nil, e, Bool.false_eq_true, if_false]
  rw [e3]
 | cons y ys =>
  obtain ⟨t, r, e, ht⟩ := tail_next (m := tokComma) (ys.map tk) b
  have h2 := Tail.of (l := l) (f := f) (tk := tk) b ys fun x hx => h x (.tail _ hx)
  have ea : rowKs ((y :: ys).map tk) ++ b = tokOpen :: (tk y ++ (tailK tokComma (ys.map tk) ++ tokClose :: b)) := by simp [rowKs, joinK]
  rw [ea]
  refine Par.args (c := tailK tokComma (ys.map tk) ++ tokClose :: b) ?_ h2 (by simpa using h8)
  rw [e]
  exact h y (.head _) t r ht
theorem comma_close {t : Tok} (h : t = tokComma ∨ t = tokClose) : ¬ Stands t ⟨#[40]⟩ := by
 rcases h with rfl | rfl
 ·exact not_text (by decide)
 ·exact not_text (by decide)
theorem Tm.tokss_map : ∀ l : List Tm, Tm.tokss l = l.map Tm.toks
 | [] => rfl
 | t :: l => by rw [Tm.tokss, Tm.tokss_map l]; rfl
theorem Ty.tokss_map : ∀ l : List Ty, Ty.tokss l = l.map Ty.toks
 | [] => rfl
 | t :: l => by rw [Ty.tokss, Ty.tokss_map l]; rfl
theorem peek_at {l b : List Tok} {p : Nat} {t : Tok} (h : l.drop p = t :: b) : rpeek l p = t := rpeek_some (tok_at h).1
theorem Tm.par_m {l : List Tok} : ∀ (m : Nat) (t : Tm), t.nodes ≤ m → ∀ (f d : Nat), 67 ≤ f + d → t.good d → ∀ b, NoOpen b → Par l (rterm f l d) (t.toks ++ b) t b
 | 0, .mk _ _ _ _, hm, _, _, _, _, _, _ => by simp only [Tm.nodes] at hm; omega
 | m + 1, .mk k n i args, hm, f, d, hf, ⟨hd, h⟩, b, hb => by
  obtain ⟨f, rfl⟩ : ∃ g, f = g + 1 := ⟨f - 1, by omega⟩
  intro p hp
  have e0 := rterm_is (f := f) (n := d) (l := l) (s := ⟨p, 0⟩) rfl (by rw [rnest_no hd])
  rw [e0]
  rw [Tm.toks] at hp
  rcases h with ⟨rfl, h1, rfl, rfl⟩ | ⟨rfl, rfl, h1, rfl⟩ | ⟨rfl, rfl, h1, h2, h8, h3⟩
  ·rw [if_neg (by decide), if_pos rfl] at hp
   simp only [Tm.tokss, rowKs, List.cons_append, List.nil_append] at hp
   simp only [peek_at hp, if_true]
   exact ⟨p + 1, rfl, (tok_at hp).2.2.2⟩
  ·rw [if_pos rfl] at hp
   simp only [Tm.tokss, rowKs, List.cons_append, List.nil_append] at hp
   simp only [peek_at hp, if_true]
   exact ⟨p + 1, rfl, (tok_at hp).2.2.2⟩
  ·rw [if_neg (by decide), if_neg (by decide), List.cons_append] at hp
   simp only [peek_at hp]
   obtain ⟨q, r, e1, e2, e3⟩ := Par.seq (Par.word (l := l) (b := rowKs (Tm.tokss args) ++ b) (t := ⟨1, n, 0⟩) (k := 1) rfl (fun hh => by have := hh.2; rw [h2] at this; cases this))
    (by rw [Tm.tokss_map]; exact Par.rowOf (f := rterm f l (d + 1)) args h8 (fun y hy t r ht => Tm.par_m m y (by have := Tm.nodess_mem hy; simp only [Tm.nodes] at hm; omega) f (d + 1) (by omega) (Tm.goods_mem h3 y hy) _ (fun t' r' e => by obtain ⟨rfl, _⟩ := List.cons.inj e; exact comma_close ht)) hb) p hp
   refine ⟨r, ?_, e3⟩
   rw [e1]
   simp only [e2]
   rfl
theorem Tm.par {l : List Tok} (t : Tm) (f d : Nat) (hf : 67 ≤ f + d) (h : t.good d) (b : List Tok) (hb : NoOpen b) : Par l (rterm f l d) (t.toks ++ b) t b := Tm.par_m _ t (Nat.le_refl _) f d hf h b hb
theorem Ty.par_m {l : List Tok} : ∀ (m : Nat) (t : Ty), t.nodes ≤ m → ∀ (f d : Nat), 67 ≤ f + d → t.good d → ∀ b, NoOpen b → Par l (rtype f l d) (t.toks ++ b) t b
 | 0, .mk _ _ _, hm, _, _, _, _, _, _ => by simp only [Ty.nodes] at hm; omega
 | m + 1, .mk v n args, hm, f, d, hf, ⟨hd, h⟩, b, hb => by
  obtain ⟨f, rfl⟩ : ∃ g, f = g + 1 := ⟨f - 1, by omega⟩
  intro p hp
  have e0 := rtype_is (f := f) (n := d) (l := l) (s := ⟨p, 0⟩) rfl (by rw [rnest_no hd])
  rw [e0]
  rw [Ty.toks] at hp
  rcases h with ⟨rfl, h1, rfl⟩ | ⟨rfl, rfl, rfl⟩ | ⟨rfl, h1, h2, h8, h3⟩
  ·rw [if_pos rfl] at hp
   simp only [Ty.tokss, rowKs, List.cons_append, List.nil_append] at hp
   simp only [peek_at hp, if_true]
   exact ⟨p + 1, rfl, (tok_at hp).2.2.2⟩
  ·rw [if_neg (by decide)] at hp
   simp only [Ty.tokss, rowKs, List.cons_append, List.nil_append] at hp
   obtain ⟨q, e1, e2⟩ := Par.got (l := l) (b := b) (t := ⟨1, kInt, 0⟩) (m := kInt) ⟨rfl, .inl rfl⟩ p hp
   simp only [peek_at hp, e1, if_true]
   exact ⟨q, rfl, e2⟩
  ·rw [if_neg (by decide), List.cons_append] at hp
   simp only [peek_at hp]
   have hno : (rgot l kInt ⟨p, 0⟩).1 = false := by
    obtain ⟨q, e, _⟩ := Par.gotNo (l := l) (t := ⟨1, n, 0⟩) (m := kInt) (fun hh => by have := hh.1; simp only at this; rw [this] at h2; revert h2; decide) p hp
    rw [e]
   obtain ⟨q, r, e1, e2, e3⟩ := Par.seq (Par.word (l := l) (b := rowKs (Ty.tokss args) ++ b) (t := ⟨1, n, 0⟩) (k := 1) rfl (fun hh => by have := hh.2; rw [h2] at this; cases this))
    (by rw [Ty.tokss_map]; exact Par.rowOf (f := rtype f l (d + 1)) args h8 (fun y hy t r ht => Ty.par_m m y (by have := Ty.nodess_mem hy; simp only [Ty.nodes] at hm; omega) f (d + 1) (by omega) (Ty.goods_mem h3 y hy) _ (fun t' r' e => by obtain ⟨rfl, _⟩ := List.cons.inj e; exact comma_close ht)) hb) p hp
   refine ⟨r, ?_, e3⟩
   rw [hno, e1]
   simp only [e2]
   rfl
theorem Ty.par {l : List Tok} (t : Ty) (f d : Nat) (hf : 67 ≤ f + d) (h : t.good d) (b : List Tok) (hb : NoOpen b) : Par l (rtype f l d) (t.toks ++ b) t b := Ty.par_m _ t (Nat.le_refl _) f d hf h b hb
inductive Joins (l : List Tok) (q : RdS → Gl × RdS) (m : Tok) : List Tok → List Gl → List Tok → Prop
 | stop {b : List Tok} (h : NotNext m.text b) : Joins l q m b [] b
 | more {a c b : List Tok} {x : Gl} {xs : List Gl} (h : Par l q a x c) (r : Joins l q m c xs b) : Joins l q m (m :: a) (x :: xs) b
theorem rjoin_of {l : List Tok} {q : RdS → Gl × RdS} {m : Tok} (h4 : m.kind = 4) {a : List Tok} {xs : List Gl} {b : List Tok} (h : Joins l q m a xs b) : ∀ (k : Nat) (gs : List Gl) (p : Nat), l.drop p = a → xs.length ≤ k → ∃ r, rjoin q m.text l k gs ⟨p, 0⟩ = (gs ++ xs, ⟨r, 0⟩) ∧ l.drop r = b := by
 induction h with
 | @stop b h =>
  intro k gs p hp _
  obtain ⟨r, e, _⟩ := Par.got0 (l := l) h p hp
  refine ⟨p, ?_, hp⟩
  rw [rjoin_no (by rw [e]), List.append_nil]
 | @more a c b x xs hx _ ih =>
  intro k gs p hp hk
  cases k with
  | zero => simp at hk
  | succ k =>
   obtain ⟨q1, r1, e1, e2, e3⟩ := Par.seq (Par.got (l := l) (b := a) (t := m) (m := m.text) ⟨rfl, .inr h4⟩) hx p hp
   obtain ⟨r, e4, e5⟩ := ih k (gs ++ [x]) r1 e3 (by simpa using hk)
   refine ⟨r, ?_, e5⟩
   simp only [rjoin, e1, if_true, e2, e4]
   simp
theorem Par.joined {l : List Tok} {q : RdS → Gl × RdS} {m : Tok} (h4 : m.kind = 4) (kind : Int) {a c b : List Tok} {x : Gl} {xs : List Gl} (h : Par l q a x c) (r : Joins l q m c xs b) (hl : xs.length ≤ l.length) : Par l (rjoined kind m.text q l) a (joinOf kind (x :: xs)) b := fun p hp => by
 obtain ⟨p1, e1, e2⟩ := h p hp
 obtain ⟨p2, e3, e4⟩ := rjoin_of h4 r l.length [x] p1 e2 hl
 refine ⟨p2, ?_, e4⟩
 simp only [rjoined, e1, e3]
 rfl
theorem tailK_len (m : Tok) : ∀ ks : List (List Tok), ks.length ≤ (tailK m ks).length
 | [] => Nat.le_refl _
 | w :: l => by have := tailK_len m l; simp only [tailK, List.length_cons, List.length_append]; omega
theorem drop_len {l a : List Tok} {p : Nat} (h : l.drop p = a) : a.length ≤ l.length := by rw [← h, List.length_drop]; omega
theorem Joins.of {l : List Tok} {q : RdS → Gl × RdS} {m : Tok} {tk : Gl → List Tok} {b : List Tok} (hb : NotNext m.text b) (Q : List Tok → Prop) (hQb : Q b) (hQm : ∀ r, Q (m :: r)) : ∀ (xs : List Gl), (∀ x ∈ xs, ∀ c, Q c → Par l q (tk x ++ c) x c) → Joins l q m (tailK m (xs.map tk) ++ b) xs b ∧ Q (tailK m (xs.map tk) ++ b)
 | [], _ => ⟨.stop hb, hQb⟩
 | x :: xs, h => by
  obtain ⟨h1, h2⟩ := Joins.of hb Q hQb hQm xs fun y hy => h y (.tail _ hy)
  rw [List.map_cons, tailK, List.cons_append, List.append_assoc]
  exact ⟨.more (h x (.head _) _ h2) h1, hQm _⟩
theorem Par.row_goals {l : List Tok} {q : RdS → Gl × RdS} {m : Tok} (h4 : m.kind = 4) (kind : Int) {tk : Gl → List Tok} {b : List Tok} (hb : NotNext m.text b) (Q : List Tok → Prop) (hQb : Q b) (hQm : ∀ r, Q (m :: r)) (xs : List Gl) (hx : xs ≠ []) (h : ∀ x ∈ xs, ∀ c, Q c → Par l q (tk x ++ c) x c) :
  Par l (rjoined kind m.text q l) (joinK m (xs.map tk) ++ b) (joinOf kind xs) b := by
 cases xs with
 | nil => exact absurd rfl hx
 | cons x xs =>
  obtain ⟨h1, h2⟩ := Joins.of hb Q hQb hQm xs fun y hy => h y (.tail _ hy)
  intro p hp
  rw [List.map_cons, joinK, List.append_assoc] at hp
  refine Par.joined h4 kind (h x (.head _) _ h2) h1 ?_ p hp
  have := drop_len hp
  have h3 := tailK_len m (xs.map tk)
  simp only [List.length_append, List.length_map] at this h3
  omega
theorem rprim_call {f d p : Nat} {l b : List Tok} {t : Tok} (hd : d ≤ 64) (hp : l.drop p = t :: b) (h : ∀ k ∈ [kTrue, kFail, kNot, kThrow, kTry, kOpen], ¬ Stands t k) : rprim (f + 1) l d ⟨p, 0⟩ = rcall f l d ⟨p, 0⟩ := by
 have no : ∀ k, k ∈ [kTrue, kFail, kNot, kThrow, kTry, kOpen] → (rgot l k ⟨p, 0⟩).1 = false := fun k hk => by
  obtain ⟨q, e, _⟩ := Par.gotNo (l := l) (b := b) (h k hk) p hp
  rw [e]
 simp only [rprim, rnest_no (l := l) (s := ⟨p, 0⟩) hd, no kTrue (by simp), no kFail (by simp), no kNot (by simp), no kThrow (by simp), no kTry (by simp), no kOpen (by simp), Bool.false_eq_true, if_false]
theorem name_stands {n : ByteArray} (h1 : IsTk ⟨1, n, 0⟩) (h2 : isReserved n = false) : ∀ k ∈ [kTrue, kFail, kNot, kThrow, kTry, kOpen], ¬ Stands ⟨1, n, 0⟩ k := fun k hk hh => by
 have e : n = k := hh.1
 subst e
 have h3 := tk_name h1
 simp only [List.mem_cons, List.not_mem_nil, or_false] at hk
 rcases hk with rfl | rfl | rfl | rfl | rfl | rfl
 ·revert h2; decide
 ·revert h2; decide
 ·revert h2; decide
 ·revert h2; decide
 ·revert h2; decide
 ·exact name_not h3 (c := 40) (w := []) rfl (by decide) rfl
theorem Tm.first {t : Tm} {d : Nat} (h : t.good d) : ∃ t0 r, t.toks = t0 :: r ∧ ∀ k ∈ [kTrue, kFail, kNot, kThrow, kTry, kOpen], ¬ Stands t0 k := by
 obtain ⟨k, n, i, args⟩ := t
 obtain ⟨_, h⟩ := h
 rw [Tm.toks]
 rcases h with ⟨rfl, _⟩ | ⟨rfl, _⟩ | ⟨rfl, rfl, h1, h2, _⟩
 ·rw [if_neg (by decide), if_pos rfl]
  exact ⟨_, _, rfl, fun k _ => not_kind (show (2 : Int) ≠ 1 by decide) (show (2 : Int) ≠ 4 by decide)⟩
 ·rw [if_pos rfl]
  exact ⟨_, _, rfl, fun k _ => not_kind (show (3 : Int) ≠ 1 by decide) (show (3 : Int) ≠ 4 by decide)⟩
 ·rw [if_neg (by decide), if_neg (by decide)]
  exact ⟨_, _, rfl, name_stands h1 h2⟩
theorem eq_noOpen (r : List Tok) : NoOpen (tokEq :: r) := fun t r' e => by obtain ⟨rfl, _⟩ := List.cons.inj e; exact not_text (by decide)
structure AllPar (l : List Tok) (g : Gl) : Prop where
 P : ∀ f d, 67 ≤ f + d → g.good d → g.kind ≠ 5 → g.kind ≠ 6 → ∀ b, FolP b → Par l (rprim f l d) (g.toks ++ b) g b
 G : ∀ f d, 67 ≤ f + d → g.good d → ∀ b, FolP b → NotNext kComma b → NotNext kSemi b → Par l (rgoal f l d) (g.toks ++ b) g b
 I : ∀ k, k ≠ 6 → ∀ f d, 67 ≤ f + d → (if loose k g.kind = true then d ≤ 64 ∧ g.good (d + 1) else g.good d) → ∀ b, FolP b → Par l (rprim f l d) (brK (loose k g.kind) g.toks ++ b) g b
 W : ∀ f d, 67 ≤ f + d → (if loose 6 g.kind = true then d ≤ 64 ∧ g.good (d + 1) else g.good d) → ∀ b, FolP b → NotNext kComma b → Par l (rjoined 5 kComma (rprim f l d) l) (brK (loose 6 g.kind) g.toks ++ b) g b
theorem Gl.ks_map (k : Int) : ∀ l : List Gl, Gl.ks k l = l.map fun g => brK (loose k g.kind) g.toks
 | [] => rfl
 | g :: l => by rw [Gl.ks, Gl.ks_map k l]; rfl
theorem Gl.goods_mem {k : Int} {d : Nat} : ∀ {l : List Gl}, Gl.goods k d l → ∀ g ∈ l, (if loose k g.kind = true then d ≤ 64 ∧ g.good (d + 1) else g.good d)
 | _ :: _, h, _, .head _ => h.1
 | _ :: _, h, t, .tail _ ht => Gl.goods_mem h.2 t ht
theorem Gl.goods_of {k : Int} {d : Nat} : ∀ {l : List Gl}, (∀ g ∈ l, (if loose k g.kind = true then d ≤ 64 ∧ g.good (d + 1) else g.good d)) → Gl.goods k d l
 | [], _ => trivial
 | t :: l, h => ⟨h t (.head _), Gl.goods_of fun x hx => h x (.tail _ hx)⟩
theorem joinOf_two (kind : Int) {gs : List Gl} (h : 2 ≤ gs.length) : joinOf kind gs = .mk kind .none .none ⟨#[]⟩ [] gs := by rw [joinOf, if_neg (by omega)]
theorem catch_fol (r : List Tok) : FolP (kw kCatch :: r) := folP_cons (not_text (by decide)) (not_text (by decide))
theorem comma_fol (r : List Tok) : FolP (tokComma :: r) := folP_cons (not_text (by decide)) (not_text (by decide))
theorem semi_fol (r : List Tok) : FolP (tokSemi :: r) := folP_cons (not_text (by decide)) (not_text (by decide))
theorem close_fol (r : List Tok) : FolP (tokClose :: r) := folP_cons (not_text (by decide)) (not_text (by decide))
theorem kw_stands {w : ByteArray} : Stands (kw w) w := ⟨rfl, .inl rfl⟩
theorem kw_not {w m : ByteArray} (h : w ≠ m) : ¬ Stands (kw w) m := not_text h
theorem rprim_true {f d p : Nat} {l b : List Tok} (hd : d ≤ 64) (hp : l.drop p = kw kTrue :: b) : ∃ q, rprim (f + 1) l d ⟨p, 0⟩ = (.mk 1 .none .none ⟨#[]⟩ [] [], ⟨q, 0⟩) ∧ l.drop q = b := by
 obtain ⟨q, e, hq⟩ := Par.got (l := l) (b := b) (kw_stands (w := kTrue)) p hp
 exact ⟨q, by simp only [rprim, rnest_no (l := l) (s := ⟨p, 0⟩) hd, e, if_true], hq⟩
section
variable {f d p : Nat} {l b : List Tok}
theorem got_no {t : Tok} {m : ByteArray} (hp : l.drop p = t :: b) (h : ¬ Stands t m) : (rgot l m ⟨p, 0⟩).1 = false := by
 obtain ⟨q, e, _⟩ := Par.gotNo (l := l) (b := b) h p hp
 rw [e]
theorem rprim_fail (hd : d ≤ 64) (hp : l.drop p = kw kFail :: b) : ∃ q, rprim (f + 1) l d ⟨p, 0⟩ = (.mk 2 .none .none ⟨#[]⟩ [] [], ⟨q, 0⟩) ∧ l.drop q = b := by
 obtain ⟨q, e, hq⟩ := Par.got (l := l) (b := b) (kw_stands (w := kFail)) p hp
 exact ⟨q, by simp only [rprim, rnest_no (l := l) (s := ⟨p, 0⟩) hd, got_no hp (kw_not (w := kFail) (m := kTrue) (by decide)), Bool.false_eq_true, if_false, e, if_true], hq⟩
theorem rprim_not {x : Gl} {c : List Tok} (hd : d ≤ 64) (hx : Par l (rprim f l (d + 1)) b x c) (hp : l.drop p = kw kNot :: b) : ∃ q, rprim (f + 1) l d ⟨p, 0⟩ = (.mk 7 .none .none ⟨#[]⟩ [] [x], ⟨q, 0⟩) ∧ l.drop q = c := by
 obtain ⟨q, r, e, e2, hq⟩ := Par.seq (Par.got (l := l) (b := b) (kw_stands (w := kNot))) hx p hp
 exact ⟨r, by simp only [rprim, rnest_no (l := l) (s := ⟨p, 0⟩) hd, got_no hp (kw_not (w := kNot) (m := kTrue) (by decide)), got_no hp (kw_not (w := kNot) (m := kFail) (by decide)), Bool.false_eq_true, if_false, e, e2, if_true], hq⟩
theorem rprim_throw {x : Tm} {c : List Tok} (hd : d ≤ 64) (hx : Par l (rterm f l (d + 1)) b x c) (hp : l.drop p = kw kThrow :: b) : ∃ q, rprim (f + 1) l d ⟨p, 0⟩ = (.mk 8 x .none ⟨#[]⟩ [] [], ⟨q, 0⟩) ∧ l.drop q = c := by
 obtain ⟨q, r, e, e2, hq⟩ := Par.seq (Par.got (l := l) (b := b) (kw_stands (w := kThrow))) hx p hp
 exact ⟨r, by simp only [rprim, rnest_no (l := l) (s := ⟨p, 0⟩) hd, got_no hp (kw_not (w := kThrow) (m := kTrue) (by decide)), got_no hp (kw_not (w := kThrow) (m := kFail) (by decide)), got_no hp (kw_not (w := kThrow) (m := kNot) (by decide)), Bool.false_eq_true, if_false, e, e2, if_true], hq⟩
theorem rprim_try {x y : Gl} {n : ByteArray} {a c : List Tok} (hd : d ≤ 64) (hx : Par l (rprim f l (d + 1)) b x (kw kCatch :: ⟨2, n, 0⟩ :: kw kThen :: a)) (hy : Par l (rprim f l (d + 1)) a y c) (hp : l.drop p = kw kTry :: b) : ∃ q, rprim (f + 1) l d ⟨p, 0⟩ = (.mk 9 .none .none n [] [x, y], ⟨q, 0⟩) ∧ l.drop q = c := by
 obtain ⟨q, r, e, e2, hq⟩ := Par.seq (Par.got (l := l) (b := b) (kw_stands (w := kTry))) hx p hp
 obtain ⟨e3, h3⟩ := rneed_at (m := kCatch) hq (kw_stands)
 obtain ⟨q4, e4, h4⟩ := Par.word (l := l) (b := kw kThen :: a) (t := ⟨2, n, 0⟩) (k := 2) rfl (fun h => by cases h.1) _ h3
 obtain ⟨e5, h5⟩ := rneed_at (m := kThen) h4 (kw_stands)
 obtain ⟨q6, e6, h6⟩ := hy _ h5
 refine ⟨q6, ?_, h6⟩
 simp only [rprim, rnest_no (l := l) (s := ⟨p, 0⟩) hd, got_no hp (kw_not (w := kTry) (m := kTrue) (by decide)), got_no hp (kw_not (w := kTry) (m := kFail) (by decide)), got_no hp (kw_not (w := kTry) (m := kNot) (by decide)), got_no hp (kw_not (w := kTry) (m := kThrow) (by decide)), Bool.false_eq_true, if_false, e, if_true, rtry, e2, e3, e4, e5, e6]
theorem rprim_brackets {x : Gl} {c : List Tok} (hd : d ≤ 64) (hx : Par l (rgoal f l (d + 1)) b x (tokClose :: c)) (hp : l.drop p = tokOpen :: b) : ∃ q, rprim (f + 1) l d ⟨p, 0⟩ = (x, ⟨q, 0⟩) ∧ l.drop q = c := by
 have hn : ∀ k, tokOpen.text ≠ k → (rgot l k ⟨p, 0⟩).1 = false := fun k hk => got_no hp (not_text hk)
 obtain ⟨q, r, e, e2, hq⟩ := Par.seq (Par.got (l := l) (b := b) (t := tokOpen) (m := kOpen) ⟨rfl, .inr rfl⟩) hx p hp
 obtain ⟨e3, h3⟩ := rneed_at (m := kClose) hq ⟨rfl, .inr rfl⟩
 refine ⟨r + 1, ?_, h3⟩
 rw [rprim_open hd (hn _ (by decide)) (hn _ (by decide)) (hn _ (by decide)) (hn _ (by decide)) (hn _ (by decide)) e, e2]
 simp only [e3]
end
theorem AllPar.of {l : List Tok} : ∀ (g : Gl), (∀ x ∈ (match g with | .mk _ _ _ _ _ gs => gs), AllPar l x) → AllPar l g
 | .mk k a b n args gs, ih => by
  simp only at ih
  have hP : ∀ f d, 67 ≤ f + d → (Gl.mk k a b n args gs).good d → k ≠ 5 → k ≠ 6 → ∀ c, FolP c → Par l (rprim f l d) ((Gl.mk k a b n args gs).toks ++ c) (.mk k a b n args gs) c := by
   intro f d hf h h5 h6 c hc p hp
   rw [Gl.toks] at hp
   have hd : d ≤ 64 := by
    rcases h with ⟨_, h, _⟩ | ⟨_, h, _⟩ | ⟨_, h, _⟩ | ⟨_, h, _⟩ | ⟨hk, _⟩ | ⟨_, h, _⟩ | ⟨_, h, _⟩ | ⟨_, h, _⟩
    all_goals first | exact h | skip
    rcases hk with rfl | rfl
    ·exact absurd rfl h5
    ·exact absurd rfl h6
   obtain ⟨f, rfl⟩ : ∃ g, f = g + 1 := ⟨f - 1, by omega⟩
   rcases h with ⟨rfl, _, rfl, rfl, rfl, rfl, rfl⟩ | ⟨rfl, _, rfl, rfl, rfl, rfl, rfl⟩ | ⟨rfl, _, ha, hb, rfl, rfl, rfl⟩ | ⟨rfl, _, rfl, rfl, hcl, rfl⟩ | ⟨hk, _⟩ | ⟨rfl, _, rfl, rfl, rfl, rfl, hl, hg⟩ | ⟨rfl, _, ha, rfl, rfl, rfl, rfl⟩ | ⟨rfl, _, rfl, rfl, hn, rfl, hl, hg⟩
   ·simp only [if_true] at hp
    exact rprim_true hd hp
   ·simp only [show ¬ (2 : Int) = 1 by decide, if_false, if_true] at hp
    exact rprim_fail hd hp
   ·simp only [show ¬ (3 : Int) = 1 by decide, show ¬ (3 : Int) = 2 by decide, if_false, if_true, List.append_assoc, List.cons_append] at hp
    obtain ⟨t0, r, e0, hs⟩ := Tm.first ha
    rw [rprim_call hd (by rw [hp, e0]; rfl) hs]
    obtain ⟨q1, e1, h1⟩ := Tm.par (l := l) a f (d + 1) (by omega) ha _ (eq_noOpen (b.toks ++ c)) p hp
    obtain ⟨q2, q3, e2, e3, h3⟩ := Par.seq (Par.got (l := l) (b := b.toks ++ c) (t := tokEq) (m := kEq) ⟨rfl, .inr rfl⟩) (Tm.par (l := l) b f (d + 1) (by omega) hb c hc.op) q1 h1
    exact ⟨q3, by simp only [rcall, e1, e2, if_true, e3], h3⟩
   ·simp only [show ¬ (4 : Int) = 1 by decide, show ¬ (4 : Int) = 2 by decide, show ¬ (4 : Int) = 3 by decide, if_false, if_true] at hp
    have ht : (Tm.mk 3 n 0 args).toks = kw n :: rowKs (Tm.tokss args) := by rw [Tm.toks, if_neg (by decide), if_neg (by decide)]; rfl
    rw [← ht] at hp
    obtain ⟨t0, r, e0, hs⟩ := Tm.first hcl
    rw [rprim_call hd (by rw [hp, e0]; rfl) hs]
    obtain ⟨q1, e1, h1⟩ := Tm.par (l := l) _ f (d + 1) (by omega) hcl _ hc.op p hp
    obtain ⟨q2, e2, _⟩ := Par.got0 (l := l) hc.eq q1 h1
    exact ⟨q1, by simp only [rcall, e1, e2, Bool.false_eq_true, if_false, Tm.kind, Tm.name, Tm.args, if_true], h1⟩
   ·rcases hk with rfl | rfl
    ·exact absurd rfl h5
    ·exact absurd rfl h6
   ·simp only [show ¬ (7 : Int) = 1 by decide, show ¬ (7 : Int) = 2 by decide, show ¬ (7 : Int) = 3 by decide, show ¬ (7 : Int) = 4 by decide, show ¬ (7 : Int) = 5 by decide, show ¬ (7 : Int) = 6 by decide, if_false, if_true] at hp
    match gs, hl, hg, ih with
    | [g], _, hg, ih =>
     exact rprim_not hd ((ih g (.head _)).I 7 (by decide) f (d + 1) (by omega) hg.1 c hc) hp
   ·simp only [show ¬ (8 : Int) = 1 by decide, show ¬ (8 : Int) = 2 by decide, show ¬ (8 : Int) = 3 by decide, show ¬ (8 : Int) = 4 by decide, show ¬ (8 : Int) = 5 by decide, show ¬ (8 : Int) = 6 by decide, show ¬ (8 : Int) = 7 by decide, if_false, if_true] at hp
    exact rprim_throw hd (Tm.par (l := l) a f (d + 1) (by omega) ha c hc.op) hp
   ·simp only [show ¬ (9 : Int) = 1 by decide, show ¬ (9 : Int) = 2 by decide, show ¬ (9 : Int) = 3 by decide, show ¬ (9 : Int) = 4 by decide, show ¬ (9 : Int) = 5 by decide, show ¬ (9 : Int) = 6 by decide, show ¬ (9 : Int) = 7 by decide, show ¬ (9 : Int) = 8 by decide, if_false, if_true] at hp
    match gs, hl, hg, ih with
    | [g1, g2], _, hg, ih =>
     refine rprim_try (x := g1) (y := g2) (b := brK (loose 9 g1.kind) g1.toks ++ (kw kCatch :: ⟨2, n, 0⟩ :: kw kThen :: (brK (loose 9 g2.kind) g2.toks ++ c))) hd ((ih g1 (.head _)).I 9 (by decide) f (d + 1) (by omega) hg.1 _ (catch_fol _)) ((ih g2 (.tail _ (.head _))).I 9 (by decide) f (d + 1) (by omega) hg.2.1 c hc) ?_
     rw [hp]; simp [Gl.ks]
  have h5 : ∀ f d, 67 ≤ f + d → (Gl.mk k a b n args gs).good d → k = 5 → ∀ c, FolP c → NotNext kComma c → Par l (rjoined 5 kComma (rprim f l d) l) ((Gl.mk k a b n args gs).toks ++ c) (.mk k a b n args gs) c := by
   rintro f d hf h rfl c hc hn
   rcases h with ⟨hk, _⟩ | ⟨hk, _⟩ | ⟨hk, _⟩ | ⟨hk, _⟩ | ⟨_, rfl, rfl, rfl, rfl, hl, hg⟩ | ⟨hk, _⟩ | ⟨hk, _⟩ | ⟨hk, _⟩
   all_goals try (exact absurd hk (by decide))
   have et : (Gl.mk 5 .none .none ⟨#[]⟩ [] gs).toks = joinK tokComma (gs.map fun g => brK (loose 5 g.kind) g.toks) := by rw [Gl.toks, if_neg (by decide), if_neg (by decide), if_neg (by decide), if_neg (by decide), if_pos rfl, Gl.ks_map]
   rw [et, ← joinOf_two 5 hl]
   exact Par.row_goals (m := tokComma) rfl 5 hn FolP hc comma_fol gs (by intro e; rw [e] at hl; simp at hl) (fun x hx c' hc' => (ih x hx).I 5 (by decide) f d hf (Gl.goods_mem hg x hx) c' hc')
  have hone : ∀ f d, 67 ≤ f + d → (Gl.mk k a b n args gs).good d → k ≠ 5 → k ≠ 6 → ∀ c, FolP c → NotNext kComma c → Par l (rjoined 5 kComma (rprim f l d) l) ((Gl.mk k a b n args gs).toks ++ c) (.mk k a b n args gs) c := by
   intro f d hf h k5 k6 c hc hn
   have := Par.joined (l := l) (m := tokComma) rfl 5 (hP f d hf h k5 k6 c hc) (.stop hn) (Nat.zero_le _)
   rwa [show joinOf 5 [Gl.mk k a b n args gs] = .mk k a b n args gs from join_one 5 _] at this
  have hG : ∀ f d, 67 ≤ f + d → (Gl.mk k a b n args gs).good d → ∀ c, FolP c → NotNext kComma c → NotNext kSemi c → Par l (rgoal f l d) ((Gl.mk k a b n args gs).toks ++ c) (.mk k a b n args gs) c := by
   intro f d hf h c hc hn hs p hp
   have er : rgoal f l d ⟨p, 0⟩ = rjoined 6 kSemi (rjoined 5 kComma (rprim f l d) l) l ⟨p, 0⟩ := rgoal_join (rprim_steps l f d) rfl
   rw [er]
   have one : Par l (rjoined 5 kComma (rprim f l d) l) ((Gl.mk k a b n args gs).toks ++ c) (.mk k a b n args gs) c → ∃ q, rjoined 6 kSemi (rjoined 5 kComma (rprim f l d) l) l ⟨p, 0⟩ = (.mk k a b n args gs, ⟨q, 0⟩) ∧ l.drop q = c := fun h1 => by
    have := Par.joined (l := l) (m := tokSemi) rfl 6 h1 (.stop hs) (Nat.zero_le _) p hp
    rwa [show joinOf 6 [Gl.mk k a b n args gs] = .mk k a b n args gs from join_one 6 _] at this
   by_cases k5 : k = 5
   ·exact one (h5 f d hf h k5 c hc hn)
   ·by_cases k6 : k = 6
    ·subst k6
     rcases h with ⟨hk, _⟩ | ⟨hk, _⟩ | ⟨hk, _⟩ | ⟨hk, _⟩ | ⟨_, rfl, rfl, rfl, rfl, hl, hg⟩ | ⟨hk, _⟩ | ⟨hk, _⟩ | ⟨hk, _⟩
     all_goals try (exact absurd hk (by decide))
     have et : (Gl.mk 6 .none .none ⟨#[]⟩ [] gs).toks = joinK tokSemi (gs.map fun g => brK (loose 6 g.kind) g.toks) := by rw [Gl.toks, if_neg (by decide), if_neg (by decide), if_neg (by decide), if_neg (by decide), if_neg (by decide), if_pos rfl, Gl.ks_map]
     rw [et] at hp
     rw [← joinOf_two 6 hl]
     exact Par.row_goals (m := tokSemi) rfl 6 hs (fun c => FolP c ∧ NotNext kComma c) ⟨hc, hn⟩ (fun r => ⟨semi_fol r, not_cons (not_text (by decide))⟩) gs (by intro e; rw [e] at hl; simp at hl) (fun x hx c' hc' => (ih x hx).W f d hf (Gl.goods_mem hg x hx) c' hc'.1 hc'.2) p hp
    ·exact one (hone f d hf h k5 k6 c hc hn)
  have hI : ∀ k', k' ≠ 6 → ∀ f d, 67 ≤ f + d → (if loose k' k = true then d ≤ 64 ∧ (Gl.mk k a b n args gs).good (d + 1) else (Gl.mk k a b n args gs).good d) → ∀ c, FolP c → Par l (rprim f l d) (brK (loose k' k) (Gl.mk k a b n args gs).toks ++ c) (.mk k a b n args gs) c := by
   intro k' hk' f d hf h c hc p hp
   cases hlo : loose k' k with
   | true =>
    rw [hlo, if_pos rfl] at h
    rw [hlo] at hp
    obtain ⟨f, rfl⟩ : ∃ g, f = g + 1 := ⟨f - 1, by omega⟩
    refine rprim_brackets (b := (Gl.mk k a b n args gs).toks ++ tokClose :: c) h.1 (hG f (d + 1) (by omega) h.2 _ (close_fol c) (not_cons (not_text (by decide))) (not_cons (not_text (by decide)))) ?_
    rw [hp]; simp [brK]
   | false =>
    rw [hlo, if_neg Bool.false_ne_true] at h
    rw [hlo] at hp
    have k5 : k ≠ 5 := by rintro rfl; revert hlo; simp [loose, hk']
    have k6 : k ≠ 6 := by rintro rfl; revert hlo; simp [loose]
    exact hP f d hf h k5 k6 c hc p hp
  refine ⟨hP, hG, hI, ?_⟩
  intro f d hf h c hc hn
  show Par l _ (brK (loose 6 k) (Gl.mk k a b n args gs).toks ++ c) _ _
  have h' : (if loose 6 k = true then d ≤ 64 ∧ (Gl.mk k a b n args gs).good (d + 1) else (Gl.mk k a b n args gs).good d) := h
  by_cases k6 : k = 6
  ·subst k6
   have := Par.joined (l := l) (m := tokComma) rfl 5 (hI 5 (by decide) f d hf h' c hc) (.stop hn) (Nat.zero_le _)
   rwa [show joinOf 5 [Gl.mk 6 a b n args gs] = .mk 6 a b n args gs from join_one 5 _] at this
  ·have hlo : loose 6 k = false := by simp [loose, k6]
   rw [hlo, if_neg Bool.false_ne_true] at h'
   rw [hlo]
   by_cases k5 : k = 5
   ·exact h5 f d hf h' k5 c hc hn
   ·exact hone f d hf h' k5 k6 c hc hn
theorem allPar (l : List Tok) : ∀ (m : Nat) (g : Gl), g.nodes ≤ m → AllPar l g
 | 0, g, h => by have := g.nodes_pos; omega
 | m + 1, .mk k a b n args gs, h => AllPar.of _ fun x hx => allPar l m x (by
   have := Gl.nodess_mem (show x ∈ gs from hx)
   simp only [Gl.nodes] at h
   have := a.nodes_pos
   omega)
theorem Gl.par {l : List Tok} (g : Gl) {f d : Nat} (hf : 67 ≤ f + d) (h : g.good d) {b : List Tok} (h1 : FolP b) (h2 : NotNext kComma b) (h3 : NotNext kSemi b) : Par l (rgoal f l d) (g.toks ++ b) g b :=
 (allPar l _ g (Nat.le_refl _)).G f d hf h b h1 h2 h3
end Go.Aug

/- Plain: what the reader reads has a form that is read back. -/
namespace Go.Aug
set_option maxRecDepth 100000
set_option linter.unusedSimpArgs false
set_option linter.unusedVariables false
mutual
theorem Tm.mono : ∀ (t : Tm) (d d' : Nat), d ≤ d' → t.good d' → t.good d
 | .mk k n i args, d, d', hd, ⟨h0, h⟩ => by
  refine ⟨by omega, ?_⟩
  rcases h with h | h | ⟨h1, h2, h3, h4, h5, h6⟩
  ·exact .inl h
  ·exact .inr (.inl h)
  ·exact .inr (.inr ⟨h1, h2, h3, h4, h5, Tm.monos args (d + 1) (d' + 1) (by omega) h6⟩)
theorem Tm.monos : ∀ (l : List Tm) (d d' : Nat), d ≤ d' → Tm.goods d' l → Tm.goods d l
 | [], _, _, _, _ => trivial
 | t :: l, d, d', hd, ⟨h1, h2⟩ => ⟨Tm.mono t d d' hd h1, Tm.monos l d d' hd h2⟩
end
mutual
theorem Gl.mono : ∀ (g : Gl) (d d' : Nat), d ≤ d' → g.good d' → g.good d
 | .mk k a b n args gs, d, d', hd, h => by
  rcases h with ⟨h1, h2, h⟩ | ⟨h1, h2, h⟩ | ⟨h1, h2, h3, h4, h⟩ | ⟨h1, h2, h3, h4, h5, h⟩ | ⟨h1, h2, h3, h4, h5, h6, h7⟩ | ⟨h1, h2, h3, h4, h5, h6, h7, h8⟩ | ⟨h1, h2, h3, h⟩ | ⟨h1, h2, h3, h4, h5, h6, h7, h8⟩
  ·exact .inl ⟨h1, by omega, h⟩
  ·exact .inr (.inl ⟨h1, by omega, h⟩)
  ·exact .inr (.inr (.inl ⟨h1, by omega, Tm.mono a _ _ (by omega) h3, Tm.mono b _ _ (by omega) h4, h⟩))
  ·exact .inr (.inr (.inr (.inl ⟨h1, by omega, h3, h4, Tm.mono _ _ _ (by omega) h5, h⟩)))
  ·exact .inr (.inr (.inr (.inr (.inl ⟨h1, h2, h3, h4, h5, h6, Gl.monos gs k d d' hd h7⟩))))
  ·exact .inr (.inr (.inr (.inr (.inr (.inl ⟨h1, by omega, h3, h4, h5, h6, h7, Gl.monos gs k (d + 1) (d' + 1) (by omega) h8⟩)))))
  ·exact .inr (.inr (.inr (.inr (.inr (.inr (.inl ⟨h1, by omega, Tm.mono a _ _ (by omega) h3, h⟩))))))
  ·exact .inr (.inr (.inr (.inr (.inr (.inr (.inr ⟨h1, by omega, h3, h4, h5, h6, h7, Gl.monos gs k (d + 1) (d' + 1) (by omega) h8⟩))))))
theorem Gl.monos : ∀ (l : List Gl) (k : Int) (d d' : Nat), d ≤ d' → Gl.goods k d' l → Gl.goods k d l
 | [], _, _, _, _, _ => trivial
 | g :: l, k, d, d', hd, ⟨h1, h2⟩ => by
  refine ⟨?_, Gl.monos l k d d' hd h2⟩
  split at h1
  ·rename_i hc
   rw [if_pos hc]
   exact ⟨by omega, Gl.mono g (d + 1) (d' + 1) (by omega) h1.2⟩
  ·rename_i hc
   rw [if_neg hc]
   exact Gl.mono g d d' hd h1
end
structure TkF (t : Tok) : Prop where
 tk : IsTk t
 zero : t.kind = 1 ∨ t.kind = 2 → t.int = 0
 num : t.kind = 3 → t.text = itoaB t.int
theorem num_wd {c : UInt8} {w : List UInt8} (hw : ∀ x ∈ w, isDig x = true) (hd : isDig c = true ∨ (c.toNat : Int) = 45) (h : (rInt ⟨⟨c :: w⟩⟩).2 = true) : (⟨⟨c :: w⟩⟩ : ByteArray) = itoaB (rInt ⟨⟨c :: w⟩⟩).1 := by
 have two : (∀ n, pNum ⟨⟨c :: w⟩⟩ = some n → rInt ⟨⟨c :: w⟩⟩ = (n, true)) ∧ (pNum ⟨⟨c :: w⟩⟩ = none → (rInt ⟨⟨c :: w⟩⟩).2 = false) := by
  rcases hd with hd | hd
  ·refine pNum_pos (fun x hx => ?_) (by simp)
   rcases List.mem_cons.1 (show x ∈ c :: w from hx) with rfl | hx
   ·exact isDig_iff.1 hd
   ·exact isDig_iff.1 (hw x hx)
  ·have e : c = 45 := UInt8.toNat_inj.1 (by show c.toNat = 45; omega)
   subst e
   exact pNum_neg (ds := w) rfl (fun x hx => isDig_iff.1 (hw x hx))
 cases hp : pNum ⟨⟨c :: w⟩⟩ with
 | none => rw [two.2 hp] at h; cases h
 | some n =>
  rw [two.1 n hp]
  unfold pNum at hp
  split at hp
  ·rename_i v hv
   split at hp
   ·rename_i hi
    cases hp
    unfold itoaB
    rw [hi]
   ·cases hp
  ·cases hp
theorem rWord_f {s : ByteArray} {p : Nat} {c : UInt8} (hp : s[p]? = some c) (hb : isBlank c = false) (h37 : ¬ (c.toNat : Int) = 37) (h : (rWord s p c).2 = true) : TkF (rWord s p c).1 := by
 obtain ⟨w, r, hs, ht, hr⟩ := tok_is hp hb h37 h
 refine ⟨⟨c, w, ht⟩, fun hk => ?_, fun hk => ?_⟩
 ·unfold rWord at hk ⊢
  by_cases hl : isLet c = true
  ·rw [if_pos hl]; rfl
  ·rw [if_neg hl] at hk ⊢
   by_cases hd : isDig c = true ∨ (c.toNat : Int) = 45
   ·rw [if_pos hd] at hk; rcases hk with hk | hk <;> cases hk
   ·rw [if_neg hd] at hk ⊢
    split
    ·rfl
    ·split <;> rfl
 ·have htx := ht.text
  unfold rWord at h hk htx ⊢
  by_cases hl : isLet c = true
  ·rw [if_pos hl] at hk; simp only [wordAl] at hk; split at hk <;> cases hk
  ·rw [if_neg hl] at h hk htx ⊢
   by_cases hd : isDig c = true ∨ (c.toNat : Int) = 45
   ·rw [if_pos hd] at h hk htx ⊢
    simp only [wordInt] at h htx ⊢
    have hlt := bat_lt hp
    have hall := runTo_all (q := isDig) (s := s) s.size (p + 1) hlt
    have hle := runTo_le (p := isDig) (s := s) s.size (p + 1) hlt
    generalize runTo isDig s s.size (p + 1) = e at h htx hall hle ⊢
    rw [htx] at h ⊢
    obtain ⟨ha, _⟩ := Bool.and_eq_true_iff.1 h
    refine num_wd (fun x hx => ?_) hd ha
    obtain ⟨i, hi⟩ := List.mem_iff_getElem?.1 hx
    have hil := (List.getElem?_eq_some_iff.1 hi).1
    have hlen : (c :: w).length = e - p := by
     have := congrArg ByteArray.size htx
     rw [ByteArray.size_extract] at this
     have e2 : (⟨⟨c :: w⟩⟩ : ByteArray).size = (c :: w).length := rfl
     omega
    have hx2 : s[p + (i + 1)]? = some x := by
     rw [ba_list, ← List.getElem?_drop, hs, List.getElem?_append_left (by simp; omega), List.getElem?_cons_succ]; exact hi
    obtain ⟨y, hy, hq⟩ := hall (p + (i + 1)) (by omega) (by simp at hlen; omega)
    rw [hx2] at hy; cases hy; exact hq
   ·rw [if_neg hd] at hk
    split at hk
    ·cases hk
    ·split at hk <;> cases hk
theorem rAll_f {s : ByteArray} : ∀ (k p : Nat) (cm : Bool) (pl : List Int) (ts : List Tok), (∀ t ∈ ts, TkF t) → ∀ t ∈ (rAll s k p cm pl ts).2.1, TkF t
 | 0, p, cm, pl, ts, h => h
 | k + 1, p, cm, pl, ts, h => by
  simp only [rAll]
  cases hc : s[p]? with
  | none => exact h
  | some c =>
   simp only
   by_cases h1 : cm = true
   ·rw [if_pos h1]; exact rAll_f k _ _ _ _ h
   ·rw [if_neg h1]
    cases h2 : isBlank c with
    | true => rw [if_pos rfl]; exact rAll_f k _ _ _ _ h
    | false =>
     rw [if_neg Bool.false_ne_true]
     by_cases h3 : (c.toNat : Int) = 37
     ·rw [if_pos h3]; exact rAll_f k _ _ _ _ h
     ·rw [if_neg h3]
      by_cases h4 : (rWord s p c).2 = true
      ·rw [if_pos h4]
       refine rAll_f k _ _ _ _ fun t ht => ?_
       rcases List.mem_append.1 ht with ht | ht
       ·exact h t ht
       ·rw [List.mem_singleton.1 ht]; exact rWord_f hc h2 h3 h4
      ·rw [if_neg h4]; exact h
def TkOk (l : List Tok) : Prop := ∀ t ∈ l, TkF t
theorem rlex_f (s : ByteArray) : TkOk (rlex s).1 := by
 unfold TkOk rlex
 repeat' split
 ·intro _ h; cases h
 ·exact rAll_f _ _ _ _ _ (fun _ h => by cases h)
 ·intro _ h; cases h
theorem TkOk.at_ {l : List Tok} (h : TkOk l) {p : Nat} {t : Tok} (ht : l[p]? = some t) : TkF t := h t (List.mem_of_getElem? ht)
theorem TkF.name {t : Tok} (h : TkF t) (hk : t.kind = 1) : IsTk ⟨1, t.text, 0⟩ := by
 have h0 := h.zero (.inl hk)
 obtain ⟨k, x, i⟩ := t
 simp only at hk h0
 subst hk h0
 exact h.tk
theorem TkF.var {t : Tok} (h : TkF t) (hk : t.kind = 2) : IsTk ⟨2, t.text, 0⟩ := by
 have h0 := h.zero (.inr hk)
 obtain ⟨k, x, i⟩ := t
 simp only at hk h0
 subst hk h0
 exact h.tk
theorem TkF.int3 {t : Tok} (h : TkF t) (hk : t.kind = 3) : IsTk ⟨3, itoaB t.int, t.int⟩ := by
 have h0 := h.num hk
 obtain ⟨k, x, i⟩ := t
 simp only at hk h0
 subst hk h0
 exact h.tk
section
variable {l : List Tok} {s : RdS}
theorem rword_tok {k : Int} (h : (rword l k s).2.err = 0) : ∃ t, l[s.pos]? = some t ∧ t.kind = k ∧ (k = 1 → isReserved t.text = false) ∧ (rword l k s).1 = t.text := by
 obtain ⟨he, _, hr⟩ := rword_ok h
 obtain ⟨_, _, x, hx⟩ := rend_tok hr
 unfold rword at h ⊢
 rw [hr] at h ⊢
 simp only [Bool.false_eq_true, if_false, hx] at h ⊢
 split at h
 ·exact absurd h (rfail_err (by decide) _)
 ·rename_i hc
  refine ⟨x, rfl, ?_, fun hk => ?_, by rw [if_neg hc]⟩
  ·apply Classical.byContradiction; intro hn; exact hc (.inl hn)
  ·cases hr2 : isReserved x.text with
   | false => rfl
   | true => exact absurd (.inr ⟨hk, hr2⟩) hc
theorem rargs_good {α : Type} {P : α → Prop} {q : RdS → α × RdS} (hq : ∀ s, s.err = 0 → (q s).2.err = 0 → P (q s).1) (hend : ∀ s, rend l s = true → (q s).2.err ≠ 0) : ∀ (k : Nat) (xs : List α) (s : RdS), s.err = 0 → (rargs q l k xs s).2.err = 0 → (∀ x ∈ xs, P x) → xs.length ≤ 8 → (∀ x ∈ (rargs q l k xs s).1, P x) ∧ (rargs q l k xs s).1.length ≤ 8
 | 0, xs, s, _, _, h1, h2 => ⟨h1, h2⟩
 | k + 1, xs, s, he, h0, h1, h2 => by
  simp only [rargs, if_pos he] at h0 ⊢
  cases hm : (rmore l xs.length s).1 with
  | false => simp only [Bool.false_eq_true, if_false]; exact ⟨h1, h2⟩
  | true =>
   simp only [hm, if_true] at h0 ⊢
   obtain ⟨r0, _, r8⟩ := rmore_true hm
   by_cases hqe : (q (rmore l xs.length s).2).2.err = 0
   ·have hn8 : xs.length ≠ 8 := fun h => hend _ (r8 h) hqe
    refine rargs_good hq hend k _ _ hqe h0 (fun x hx => ?_) (by simp only [List.length_append, List.length_cons, List.length_nil]; omega)
    rcases List.mem_append.1 hx with hx | hx
    ·exact h1 x hx
    ·rw [List.mem_singleton.1 hx]; exact hq _ r0 hqe
   ·rw [rargs_stop hqe] at h0
    exact absurd h0 hqe
theorem rterm_good (hl : TkOk l) : ∀ (f d : Nat), d ≤ 65 → 67 ≤ f + d → ∀ s : RdS, s.err = 0 → (rterm f l d s).2.err = 0 → (rterm f l d s).1.good d
 | 0, d, h1, h2 => by omega
 | f + 1, d, h1, h2 => by
  intro s he h0
  cases hr : rend l s with
  | true => exact absurd h0 (rterm_end (by omega) hr)
  | false =>
   obtain ⟨_, hlt, k, hk⟩ := rend_tok hr
   have hd : d ≤ 64 := by
    apply Classical.byContradiction; intro hn
    have e := nest_big he (show 64 < d by omega) hlt
    rw [rterm_nerr (err_3 e), e] at h0; cases h0
   have e0 := rterm_is (l := l) (f := f) (n := d) he (by rw [rnest_no hd]; exact he)
   rw [rpeek_some hk] at e0
   rw [e0] at h0 ⊢
   have hF := hl.at_ hk
   by_cases c2 : k.kind = 2
   ·rw [if_pos c2]
    exact ⟨hd, .inl ⟨rfl, hF.var c2, rfl, rfl⟩⟩
   ·rw [if_neg c2] at h0 ⊢
    by_cases c3 : k.kind = 3
    ·rw [if_pos c3]
     exact ⟨hd, .inr (.inl ⟨rfl, rfl, hF.int3 c3, rfl⟩)⟩
    ·rw [if_neg c3] at h0 ⊢
     by_cases hw : (rword l 1 s).2.err = 0
     ·obtain ⟨t, ht, tk, tr, te⟩ := rword_tok hw
      obtain ⟨g1, g2⟩ := rargs_good (P := Tm.good (d + 1)) (rterm_good hl f (d + 1) (by omega) (by omega)) (fun s h => rterm_end (by omega) h) 10 [] _ hw h0 (fun x hx => by cases hx) (by simp)
      refine ⟨hd, .inr (.inr ⟨rfl, rfl, ?_, ?_, g2, Tm.goods_of g1⟩)⟩
      ·rw [te]; exact (hl.at_ ht).name tk
      ·rw [te]; exact tr rfl
     ·rw [rargs_stop hw] at h0
      exact absurd h0 hw
theorem rtype_good (hl : TkOk l) : ∀ (f d : Nat), d ≤ 65 → 67 ≤ f + d → ∀ s : RdS, s.err = 0 → (rtype f l d s).2.err = 0 → (rtype f l d s).1.good d
 | 0, d, h1, h2 => by omega
 | f + 1, d, h1, h2 => by
  intro s he h0
  cases hr : rend l s with
  | true => exact absurd h0 (rtype_end (by omega) hr)
  | false =>
   obtain ⟨_, hlt, k, hk⟩ := rend_tok hr
   have hd : d ≤ 64 := by
    apply Classical.byContradiction; intro hn
    have e := nest_big he (show 64 < d by omega) hlt
    rw [rtype_nerr (err_3 e), e] at h0; cases h0
   have e0 := rtype_is (l := l) (f := f) (n := d) he (by rw [rnest_no hd]; exact he)
   rw [rpeek_some hk] at e0
   rw [e0] at h0 ⊢
   have hF := hl.at_ hk
   by_cases c2 : k.kind = 2
   ·rw [if_pos c2]
    exact ⟨hd, .inl ⟨rfl, hF.var c2, rfl⟩⟩
   ·rw [if_neg c2] at h0 ⊢
    by_cases c3 : (rgot l kInt s).1 = true
    ·rw [if_pos c3]
     exact ⟨hd, .inr (.inl ⟨rfl, rfl, rfl⟩)⟩
    ·rw [if_neg c3] at h0 ⊢
     by_cases hw : (rword l 1 s).2.err = 0
     ·obtain ⟨t, ht, tk, tr, te⟩ := rword_tok hw
      obtain ⟨g1, g2⟩ := rargs_good (P := Ty.good (d + 1)) (rtype_good hl f (d + 1) (by omega) (by omega)) (fun s h => rtype_end (by omega) h) 10 [] _ hw h0 (fun x hx => by cases hx) (by simp)
      refine ⟨hd, .inr (.inr ⟨rfl, ?_, ?_, g2, Ty.goods_of g1⟩)⟩
      ·rw [te]; exact (hl.at_ ht).name tk
      ·rw [te]; exact tr rfl
     ·rw [rargs_stop hw] at h0
      exact absurd h0 hw
def InF (k : Int) (d : Nat) (g : Gl) : Prop := if loose k g.kind = true then d ≤ 64 ∧ g.good (d + 1) else g.good d
theorem loose_5 {k : Int} (h : k ≠ 6) (g : Int) : loose k g = loose 5 g := by
 have h2 : (k != 6) = true := by simpa using h
 unfold loose
 rw [h2]; rfl
theorem InF.of {k : Int} (h : k ≠ 6) {d : Nat} {g : Gl} (hg : InF 5 d g) : InF k d g := by unfold InF at hg ⊢; rw [loose_5 h]; exact hg
theorem InF.up {k : Int} {d : Nat} {g : Gl} (hd : d ≤ 64) (h : g.good (d + 1)) : InF k d g := by
 unfold InF; split
 ·exact ⟨hd, h⟩
 ·exact Gl.mono g d (d + 1) (by omega) h
theorem InF.plain {k : Int} {d : Nat} {g : Gl} (hg : InF k d g) : g.good d := by
 unfold InF at hg; split at hg
 ·exact Gl.mono g d (d + 1) (by omega) hg.2
 ·exact hg
theorem InF.six {d : Nat} {g : Gl} (hg : InF 5 d g) : InF 6 d g := by
 by_cases h : g.kind = 6
 ·have h5 : loose 5 g.kind = true := by rw [h]; rfl
  have h6 : loose 6 g.kind = true := by rw [h]; rfl
  unfold InF at hg ⊢
  rw [if_pos h5] at hg
  rw [if_pos h6]
  exact hg
 ·have h6 : loose 6 g.kind = false := by simp [loose, h]
  have := hg.plain
  unfold InF
  rw [h6, if_neg Bool.false_ne_true]
  exact this
theorem rjoin_all {P : Gl → Prop} {q : RdS → Gl × RdS} {m : ByteArray} (hq : ∀ s, s.err = 0 → (q s).2.err = 0 → P (q s).1) : ∀ (k : Nat) (gs : List Gl) (s : RdS), s.err = 0 → (rjoin q m l k gs s).2.err = 0 → (∀ g ∈ gs, P g) → ∀ g ∈ (rjoin q m l k gs s).1, P g
 | 0, gs, s, _, _, h => h
 | k + 1, gs, s, he, h0, h => by
  simp only [rjoin] at h0 ⊢
  split at h0
  ·rename_i hg
   rw [if_pos hg]
   by_cases hqe : (q (rgot l m s).2).2.err = 0
   ·refine rjoin_all hq k _ _ hqe h0 fun g hx => ?_
    rcases List.mem_append.1 hx with hx | hx
    ·exact h g hx
    ·rw [List.mem_singleton.1 hx]; exact hq _ (by rw [rgot_err]; exact he) hqe
   ·rw [rjoin_err hqe] at h0
    exact absurd h0 hqe
  ·rename_i hg
   rw [if_neg hg]; exact h
theorem rjoined_all {P : Gl → Prop} {q : RdS → Gl × RdS} {m : ByteArray} {kind : Int} (hq : ∀ s, s.err = 0 → (q s).2.err = 0 → P (q s).1) (he : s.err = 0) (h0 : (rjoined kind m q l s).2.err = 0) : ∃ gs, gs ≠ [] ∧ (∀ g ∈ gs, P g) ∧ (rjoined kind m q l s).1 = joinOf kind gs := by
 simp only [rjoined] at h0 ⊢
 by_cases hqe : (q s).2.err = 0
 ·refine ⟨_, rjoin_ne _ _ _ (by simp), rjoin_all hq _ _ _ hqe h0 (fun g hg => ?_), rfl⟩
  rw [List.mem_singleton.1 hg]; exact hq _ he hqe
 ·rw [rjoin_err hqe] at h0
  exact absurd h0 hqe
theorem joinOf_cases (kind : Int) {gs : List Gl} (h : gs ≠ []) : (∃ g, gs = [g] ∧ joinOf kind gs = g) ∨ (2 ≤ gs.length ∧ joinOf kind gs = .mk kind .none .none ⟨#[]⟩ [] gs) := by
 match gs, h with
 | [g], _ => exact .inl ⟨g, rfl, join_one kind g⟩
 | g :: g2 :: gs, _ => exact .inr ⟨by simp, joinOf_two kind (by simp)⟩
theorem rgoalW_good {q : RdS → Gl × RdS} {d : Nat} (hq : ∀ s, s.err = 0 → (q s).2.err = 0 → InF 5 d (q s).1) (hs : Steps l q) (he : s.err = 0) (h0 : (rgoalW q l s).2.err = 0) : (rgoalW q l s).1.good d := by
 rw [rgoal_join hs he] at h0 ⊢
 obtain ⟨os, hne, ho, e⟩ := rjoined_all (P := InF 6 d) (fun s he h0 => by
  obtain ⟨gs, hne, hg, e⟩ := rjoined_all (P := InF 5 d) hq he h0
  rw [e]
  rcases joinOf_cases 5 hne with ⟨g, rfl, e2⟩ | ⟨h2, e2⟩
  ·rw [e2]; exact (hg g (.head _)).six
  ·rw [e2]
   show InF 6 d _
   unfold InF
   rw [show loose 6 (Gl.mk 5 .none .none ⟨#[]⟩ [] gs).kind = false from rfl, if_neg Bool.false_ne_true]
   exact .inr (.inr (.inr (.inr (.inl ⟨.inl rfl, rfl, rfl, rfl, rfl, h2, Gl.goods_of hg⟩))))) he h0
 rw [e]
 rcases joinOf_cases 6 hne with ⟨g, rfl, e2⟩ | ⟨h2, e2⟩
 ·rw [e2]; exact (ho g (.head _)).plain
 ·rw [e2]
  exact .inr (.inr (.inr (.inr (.inl ⟨.inr rfl, rfl, rfl, rfl, rfl, h2, Gl.goods_of ho⟩))))
theorem InF.low {d : Nat} {g : Gl} (h : loose 5 g.kind = false) (hg : g.good d) : InF 5 d g := by unfold InF; rw [h, if_neg Bool.false_ne_true]; exact hg
theorem rprim_good (hl : TkOk l) : ∀ (f d : Nat), d ≤ 65 → 67 ≤ f + d → ∀ s : RdS, s.err = 0 → (rprim f l d s).2.err = 0 → InF 5 d (rprim f l d s).1
 | 0, d, h1, h2 => by omega
 | f + 1, d, h1, h2 => by
  intro s he h0
  cases hr : rend l s with
  | true => exact absurd h0 (rprim_end (by omega) hr)
  | false =>
   obtain ⟨_, hlt, k, hk⟩ := rend_tok hr
   have hd : d ≤ 64 := by
    apply Classical.byContradiction; intro hn
    have e := nest_big he (show 64 < d by omega) hlt
    rw [rprim_nerr (err_3 e), e] at h0; cases h0
   have e0 := rnest_no (l := l) (s := s) hd
   have ge := fun t => show (rgot l t s).2.err = 0 by rw [rgot_err]; exact he
   have ht := rterm_good hl f (d + 1) (by omega) (by omega)
   have hq := rprim_good hl f (d + 1) (by omega) (by omega)
   simp only [rprim, e0] at h0 ⊢
   by_cases c1 : (rgot l kTrue s).1 = true
   ·rw [if_pos c1]; exact .low rfl (.inl ⟨rfl, hd, rfl, rfl, rfl, rfl, rfl⟩)
   rw [if_neg c1] at h0 ⊢
   by_cases c2 : (rgot l kFail s).1 = true
   ·rw [if_pos c2]; exact .low rfl (.inr (.inl ⟨rfl, hd, rfl, rfl, rfl, rfl, rfl⟩))
   rw [if_neg c2] at h0 ⊢
   by_cases c3 : (rgot l kNot s).1 = true
   ·rw [if_pos c3] at h0 ⊢
    have := (hq _ (ge _) h0).of (k := 7) (by decide)
    exact .low rfl (.inr (.inr (.inr (.inr (.inr (.inl ⟨rfl, hd, rfl, rfl, rfl, rfl, rfl, this, trivial⟩))))))
   rw [if_neg c3] at h0 ⊢
   by_cases c4 : (rgot l kThrow s).1 = true
   ·rw [if_pos c4] at h0 ⊢
    exact .low rfl (.inr (.inr (.inr (.inr (.inr (.inr (.inl ⟨rfl, hd, ht _ (ge _) h0, rfl, rfl, rfl, rfl⟩)))))))
   rw [if_neg c4] at h0 ⊢
   by_cases c5 : (rgot l kTry s).1 = true
   ·rw [if_pos c5] at h0 ⊢
    have hst := rprim_sticky l f (d + 1)
    obtain ⟨t1, t2⟩ := rtry_is (l := l) (s := (rgot l kTry s).2) hst
    rw [t2] at h0
    rw [t1]
    generalize (rgot l kTry s).2 = s1 at h0 ge
    have n4 : (rneed l kThen (rword l 2 (rneed l kCatch (rprim f l (d + 1) s1).2)).2).err = 0 := by
     apply Classical.byContradiction; intro hn
     rw [hst _ hn] at h0; exact hn h0
    have n3 := (rneed_ok n4).1
    have n2 := (rword_ok n3).1
    have n1 := (rneed_ok n2).1
    have ns : s1.err = 0 := by
     apply Classical.byContradiction; intro hn
     rw [hst _ hn] at n1; exact hn n1
    obtain ⟨t, tt, tk, _, te⟩ := rword_tok n3
    have g1 := (hq _ ns n1).of (k := 9) (by decide)
    have g2 := (hq _ n4 h0).of (k := 9) (by decide)
    refine .low rfl (.inr (.inr (.inr (.inr (.inr (.inr (.inr ⟨rfl, hd, rfl, rfl, ?_, rfl, rfl, g1, g2, trivial⟩)))))))
    rw [te]; exact (hl.at_ tt).var tk
   rw [if_neg c5] at h0 ⊢
   by_cases c6 : (rgot l kOpen s).1 = true
   ·rw [if_pos c6] at h0 ⊢
    have n1 := (rneed_ok h0).1
    exact .up hd (rgoalW_good hq (rprim_steps l f (d + 1)) (ge _) n1)
   rw [if_neg c6] at h0 ⊢
   have ha : (rterm f l (d + 1) s).2.err = 0 := by
    apply Classical.byContradiction; intro hn
    simp only [rcall, rgot_errs hn, Bool.false_eq_true, if_false] at h0
    split at h0
    ·exact hn h0
    ·rw [rfail, if_neg hn] at h0; exact hn h0
   have hga := ht s he ha
   simp only [rcall] at h0 ⊢
   by_cases hg : (rgot l kEq (rterm f l (d + 1) s).2).1 = true
   ·rw [if_pos hg] at h0 ⊢
    exact .low rfl (.inr (.inr (.inl ⟨rfl, hd, hga, ht _ (by rw [rgot_err]; exact ha) h0, rfl, rfl, rfl⟩)))
   ·rw [if_neg hg] at h0 ⊢
    by_cases hk3 : (rterm f l (d + 1) s).1.kind = 3
    ·refine .low rfl (.inr (.inr (.inr (.inl ⟨rfl, hd, rfl, rfl, ?_, rfl⟩))))
     generalize (rterm f l (d + 1) s).1 = x at hga hk3
     obtain ⟨xk, xn, xi, xs⟩ := x
     simp only [Tm.kind] at hk3
     subst hk3
     have hi : xi = 0 := by
      rcases hga.2 with ⟨h, _⟩ | ⟨h, _⟩ | ⟨_, h, _⟩
      ·cases h
      ·cases h
      ·exact h
     subst hi
     exact hga
    ·rw [if_neg hk3] at h0
     exact absurd h0 (rfail_err (by decide) _)
theorem rgoal_good (hl : TkOk l) {f d : Nat} (h1 : d ≤ 65) (h2 : 67 ≤ f + d) (he : s.err = 0) (h0 : (rgoal f l d s).2.err = 0) : (rgoal f l d s).1.good d :=
 rgoalW_good (rprim_good hl f d h1 h2) (rprim_steps l f d) he h0
end
end Go.Aug

/- Plain: items: their forms are lexed and read back; what is read is good. -/
namespace Go.Aug
set_option maxRecDepth 100000
set_option linter.unusedSimpArgs false
set_option linter.unusedVariables false
def detT (n : Int) : List UInt8 := if n = 1 then [100, 101, 116] else if n = 2 then [115, 101, 109, 105, 100, 101, 116] else if n = 3 then [109, 117, 108, 116, 105] else if n = 4 then [110, 111, 110, 100, 101, 116] else []
def detW (n : Int) : ByteArray := if n = 1 then kDet else if n = 2 then kSemi2 else if n = 3 then kMulti else kNon
def wayT (b : Bool) : List UInt8 := if b then [105, 110] else [111, 117, 116]
def wayK (b : Bool) : List Tok := [kw (if b then kIn else kOut)]
def Ct.t (c : Ct) : List UInt8 := c.name.data.toList ++ rowT (Ty.ts c.args)
def Ct.toks (c : Ct) : List Tok := kw c.name :: rowKs (Ty.tokss c.args)
def ctorsT (l : List Ct) : List UInt8 := Lib.join (l.map Ct.t) [32, 124, 32]
def It.t0 (i : It) : List UInt8 :=
 if i.kind = 1 then [116, 121, 112, 101, 32] ++ i.name.data.toList ++ rowT (i.vars.map (·.data.toList)) ++ [32, 61, 32] ++ ctorsT i.ctors
 else if i.kind = 2 then [112, 114, 101, 100, 32] ++ i.name.data.toList ++ rowT (Ty.ts i.types)
 else if i.kind = 3 then [109, 111, 100, 101, 32] ++ i.name.data.toList ++ rowT (i.ways.map wayT) ++ [32, 105, 115, 32] ++ detT i.det
 else if i.kind = 4 then i.name.data.toList ++ rowT (Tm.ts i.args) ++ (if i.body.kind = 1 then [] else [32, 58, 45, 32] ++ i.body.t)
 else []
def It.t (i : It) : List UInt8 := i.t0 ++ [46, 10]
def It.toks (i : It) : List Tok :=
 if i.kind = 1 then kw kType :: kw i.name :: (rowKs (i.vars.map fun v => [⟨2, v, 0⟩]) ++ tokEq :: joinK tokBar (i.ctors.map Ct.toks))
 else if i.kind = 2 then kw kPred :: kw i.name :: rowKs (Ty.tokss i.types)
 else if i.kind = 3 then kw kMode :: kw i.name :: (rowKs (i.ways.map wayK) ++ [kw kIs, kw (detW i.det)])
 else kw i.name :: (rowKs (Tm.tokss i.args) ++ (if i.body.kind = 1 then [] else tokIf :: i.body.toks))
structure NameOk (n : ByteArray) : Prop where
 tk : IsTk ⟨1, n, 0⟩
 res : isReserved n = false
structure Ct.Good (c : Ct) : Prop where
 name : NameOk c.name
 few : c.args.length ≤ 8
 args : Ty.goods 1 c.args
inductive It.Good : It → Prop
 | type {n : ByteArray} {vs : List ByteArray} {cs : List Ct} (hn : NameOk n) (h8 : vs.length ≤ 8) (hv : ∀ v ∈ vs, IsTk ⟨2, v, 0⟩) (hne : cs ≠ []) (hc : ∀ c ∈ cs, c.Good) : It.Good { (default : It) with kind := 1, name := n, vars := vs, ctors := cs }
 | pred {n : ByteArray} {ts : List Ty} (hn : NameOk n) (h8 : ts.length ≤ 8) (ht : Ty.goods 1 ts) : It.Good { (default : It) with kind := 2, name := n, types := ts }
 | mode {n : ByteArray} {ws : List Bool} {d : Int} (hn : NameOk n) (h8 : ws.length ≤ 8) (hd : d = 1 ∨ d = 2 ∨ d = 3 ∨ d = 4) : It.Good { (default : It) with kind := 3, name := n, ways := ws, det := d }
 | clause {n : ByteArray} {ts : List Tm} {g : Gl} (hn : NameOk n) (h8 : ts.length ≤ 8) (ht : Tm.goods 1 ts) (hg : g.good 1) : It.Good { (default : It) with kind := 4, name := n, args := ts, body := g }
theorem NameOk.lex {n : ByteArray} (h : NameOk n) : LexP n.data.toList [kw n] := isTk_lex h.tk
theorem Ct.lex {c : Ct} (h : c.Good) : LexP c.t c.toks := by
 have hr := (Ty.lexs c.args 1 h.args).row
 exact (h.name.lex).app hr.1 hr.2
theorem LexL.map {α : Type} {f : α → List UInt8} {k : α → List Tok} : ∀ (l : List α), (∀ x ∈ l, LexP (f x) (k x)) → LexL (l.map f) (l.map k)
 | [], _ => .nil
 | x :: l, h => .cons (h x (.head _)) (LexL.map l fun y hy => h y (.tail _ hy))
theorem wayT_lex (b : Bool) : LexP (wayT b) (wayK b) := by
 cases b with
 | true => exact kw1_lex (c := 105) (w := [110]) (by decide) (by decide) (by decide)
 | false => exact kw1_lex (c := 111) (w := [117, 116]) (by decide) (by decide) (by decide)
theorem detT_lex {d : Int} (h : d = 1 ∨ d = 2 ∨ d = 3 ∨ d = 4) : LexP (detT d) [kw (detW d)] := by
 rcases h with rfl | rfl | rfl | rfl
 ·exact kw1_lex (c := 100) (w := [101, 116]) (by decide) (by decide) (by decide)
 ·exact kw1_lex (c := 115) (w := [101, 109, 105, 100, 101, 116]) (by decide) (by decide) (by decide)
 ·exact kw1_lex (c := 109) (w := [117, 108, 116, 105]) (by decide) (by decide) (by decide)
 ·exact kw1_lex (c := 110) (w := [111, 110, 100, 101, 116]) (by decide) (by decide) (by decide)
theorem It.lex {i : It} (h : i.Good) : LexP i.t0 i.toks := by
 cases h with
 | @type n vs cs hn h8 hv hne hc =>
  have h1 := (LexL.map (f := Ct.t) (k := Ct.toks) cs fun c hc' => Ct.lex (hc c hc')).join sep_bar soft_bar
  have h2 := (LexL.map (f := fun v : ByteArray => v.data.toList) (k := fun v => [(⟨2, v, 0⟩ : Tok)]) vs fun v hv' => isTk_lex (hv v hv')).row
  have h3 := kw_lex (c := 116) (w := [121, 112, 101]) (by decide) (by decide) (by decide) (hn.lex.app (h2.1.app (.sp (.mark (w := []) eq_is rfl h1.sp)) (fun _ _ => soft_cons (by decide))) (fun r hr => by rw [List.append_assoc]; exact h2.2 _ (soft_cons (by decide))))
  show LexP ([116, 121, 112, 101, 32] ++ n.data.toList ++ rowT (vs.map (·.data.toList)) ++ [32, 61, 32] ++ ctorsT cs) (kw kType :: kw n :: (rowKs (vs.map fun v => [⟨2, v, 0⟩]) ++ tokEq :: joinK tokBar (cs.map Ct.toks)))
  change LexP _ (kw kType :: kw n :: (rowKs (vs.map fun v => [⟨2, v, 0⟩]) ++ tokEq :: joinK tokBar (cs.map Ct.toks))) at h3
  simpa [ctorsT] using h3
 | @pred n ts hn h8 ht =>
  have hr := (Ty.lexs ts 1 ht).row
  have h3 := kw_lex (c := 112) (w := [114, 101, 100]) (by decide) (by decide) (by decide) (hn.lex.app hr.1 hr.2)
  show LexP ([112, 114, 101, 100, 32] ++ n.data.toList ++ rowT (Ty.ts ts)) (kw kPred :: kw n :: rowKs (Ty.tokss ts))
  change LexP _ (kw kPred :: kw n :: rowKs (Ty.tokss ts)) at h3
  simpa using h3
 | @mode n ws d hn h8 hd =>
  have h2 := (LexL.map (f := wayT) (k := wayK) ws fun b _ => wayT_lex b).row
  have h4 := kw_lex (c := 105) (w := [115]) (by decide) (by decide) (by decide) (detT_lex hd)
  have h3 := kw_lex (c := 109) (w := [111, 100, 101]) (by decide) (by decide) (by decide) (hn.lex.app (h2.1.app h4.sp (fun _ _ => soft_cons (by decide))) (fun r hr => by rw [List.append_assoc]; exact h2.2 _ (soft_cons (by decide))))
  show LexP ([109, 111, 100, 101, 32] ++ n.data.toList ++ rowT (ws.map wayT) ++ [32, 105, 115, 32] ++ detT d) (kw kMode :: kw n :: (rowKs (ws.map wayK) ++ [kw kIs, kw (detW d)]))
  change LexP _ (kw kMode :: kw n :: (rowKs (ws.map wayK) ++ [kw kIs, kw (detW d)])) at h3
  simpa using h3
 | @clause n ts g hn h8 ht hg =>
  have hr := (Tm.lexs ts 1 ht).row
  show LexP (n.data.toList ++ rowT (Tm.ts ts) ++ (if g.kind = 1 then [] else [32, 58, 45, 32] ++ g.t)) (kw n :: (rowKs (Tm.tokss ts) ++ (if g.kind = 1 then [] else tokIf :: g.toks)))
  rw [List.append_assoc]
  by_cases hk : g.kind = 1
  ·rw [if_pos hk, if_pos hk, List.append_nil, List.append_nil]
   exact hn.lex.app hr.1 hr.2
  ·rw [if_neg hk, if_neg hk]
   exact hn.lex.app (hr.1.app (.sp (.mark (w := [45]) if_is rfl (Gl.lex g 1 hg).sp)) (fun _ _ => soft_cons (by decide))) (fun r hr' => by rw [List.append_assoc]; exact hr.2 _ (soft_cons (by decide)))
def itsT : List It → List UInt8
 | [] => []
 | i :: l => i.t ++ itsT l
def itsK : List It → List Tok
 | [] => []
 | i :: l => i.toks ++ tokDot :: itsK l
theorem src_lex : ∀ (l : List It), (∀ i ∈ l, i.Good) → Lexed false (itsT l) (itsK l)
 | [], _ => .nil false
 | i :: l, h => by
  have := It.lex (h i (.head _)) (46 :: 10 :: itsT l) (tokDot :: itsK l) (soft_cons (by decide)) (.tok (w := []) dot_is (.inl rfl) (.blank (c := 10) (by decide) (src_lex l fun j hj => h j (.tail _ hj))))
  simpa [itsT, itsK, It.t] using this
section
variable {l : List Tok}
theorem Ct.par {c : Ct} (h : c.Good) {b : List Tok} (hb : NoOpen b) : Par l (rctor l) (c.toks ++ b) c b := fun p hp => by
 obtain ⟨q, r, e1, e2, e3⟩ := Par.seq (Par.word (l := l) (b := rowKs (Ty.tokss c.args) ++ b) (t := ⟨1, c.name, 0⟩) (k := 1) rfl (fun hh => by have := hh.2; rw [h.name.res] at this; cases this))
  (by rw [Ty.tokss_map]; exact Par.rowOf (f := rtype 66 l 1) c.args h.few (fun y hy t r ht => Ty.par y 66 1 (by decide) (Ty.goods_mem h.args y hy) _ (fun t' r' e => by obtain ⟨rfl, _⟩ := List.cons.inj e; exact comma_close ht)) hb) p hp
 refine ⟨r, ?_, e3⟩
 simp only [rctor, e1, e2]
theorem bar_noOpen (r : List Tok) : NoOpen (tokBar :: r) := fun t r' e => by obtain ⟨rfl, _⟩ := List.cons.inj e; exact not_text (by decide)
theorem tail_noOpen {b : List Tok} (hb : NoOpen b) : ∀ cs : List Ct, NoOpen (tailK tokBar (cs.map Ct.toks) ++ b)
 | [] => hb
 | c :: cs => bar_noOpen _
theorem rbars_par {b : List Tok} (hb : NoOpen b) (hn : NotNext kBar b) : ∀ (cs : List Ct), (∀ c ∈ cs, c.Good) → ∀ (k : Nat) (gs : List Ct) (p : Nat), l.drop p = tailK tokBar (cs.map Ct.toks) ++ b → cs.length ≤ k → ∃ r, rbars l k gs ⟨p, 0⟩ = (gs ++ cs, ⟨r, 0⟩) ∧ l.drop r = b
 | [], _, k, gs, p, hp, _ => by
  obtain ⟨r, e, _⟩ := Par.got0 (l := l) hn p hp
  exact ⟨p, by rw [rbars_no (by rw [e]), List.append_nil], hp⟩
 | c :: cs, h, k, gs, p, hp, hk => by
  cases k with
  | zero => simp at hk
  | succ k =>
   rw [List.map_cons, tailK, List.cons_append, List.append_assoc] at hp
   obtain ⟨q1, r1, e1, e2, e3⟩ := Par.seq (Par.got (l := l) (t := tokBar) (m := kBar) ⟨rfl, .inr rfl⟩) (Ct.par (h c (.head _)) (tail_noOpen hb cs)) p hp
   obtain ⟨r, e4, e5⟩ := rbars_par hb hn cs (fun x hx => h x (.tail _ hx)) k (gs ++ [c]) r1 e3 (by simpa using hk)
   refine ⟨r, ?_, e5⟩
   simp only [rbars, e1, if_true, e2, e4]
   simp
theorem par_name {n : ByteArray} (h : NameOk n) (b : List Tok) : Par l (rword l 1) (kw n :: b) n b := Par.word (t := kw n) rfl (fun hh => by have := hh.2; rw [show (kw n).text = n from rfl, h.res] at this; cases this)
theorem name_no {n m : ByteArray} (h : NameOk n) (hm : isReserved m = true) : ¬ Stands (kw n) m := kw_not (fun e => by rw [e] at h; have := h.res; rw [hm] at this; cases this)
theorem dot_op (b : List Tok) : NoOpen (tokDot :: b) := fun t r e => by obtain ⟨rfl, _⟩ := List.cons.inj e; exact not_text (by decide)
theorem kw_op {w : ByteArray} (hw : w ≠ ⟨#[40]⟩) (b : List Tok) : NoOpen (kw w :: b) := fun t r e => by obtain ⟨rfl, _⟩ := List.cons.inj e; exact kw_not hw
theorem if_op (b : List Tok) : NoOpen (tokIf :: b) := fun t r e => by obtain ⟨rfl, _⟩ := List.cons.inj e; exact not_text (by decide)
theorem wayIn_par (b : Bool) (r : List Tok) : Par l (rwayIn l) (wayK b ++ r) b r := fun p hp => by
 cases b with
 | true =>
  obtain ⟨q, e, h⟩ := Par.got (l := l) (b := r) (kw_stands (w := kIn)) p hp
  exact ⟨q, by simp only [rwayIn, e, if_true], h⟩
 | false =>
  obtain ⟨e, h⟩ := rneed_at (m := kOut) hp (kw_stands (w := kOut))
  exact ⟨p + 1, by simp only [rwayIn, got_no hp (kw_not (w := kOut) (m := kIn) (by decide)), Bool.false_eq_true, if_false, e], h⟩
theorem det_par {d : Int} (h : d = 1 ∨ d = 2 ∨ d = 3 ∨ d = 4) (r : List Tok) : Par l (rdet l) (kw (detW d) :: r) d r := fun p hp => by
 rcases h with rfl | rfl | rfl | rfl
 ·obtain ⟨q, e, h⟩ := Par.got (l := l) (b := r) (kw_stands (w := kDet)) p hp
  exact ⟨q, by simp only [rdet, e, if_true], h⟩
 ·have hp : l.drop p = kw kSemi2 :: r := hp
  obtain ⟨q, e, h⟩ := Par.got (l := l) (b := r) (kw_stands (w := kSemi2)) p hp
  exact ⟨q, by simp only [rdet, got_no hp (kw_not (w := kSemi2) (m := kDet) (by decide)), Bool.false_eq_true, if_false, e, if_true], h⟩
 ·have hp : l.drop p = kw kMulti :: r := hp
  obtain ⟨q, e, h⟩ := Par.got (l := l) (b := r) (kw_stands (w := kMulti)) p hp
  exact ⟨q, by simp only [rdet, got_no hp (kw_not (w := kMulti) (m := kDet) (by decide)), got_no hp (kw_not (w := kMulti) (m := kSemi2) (by decide)), Bool.false_eq_true, if_false, e, if_true], h⟩
 ·have hp : l.drop p = kw kNon :: r := hp
  obtain ⟨q, e, h⟩ := Par.got (l := l) (b := r) (kw_stands (w := kNon)) p hp
  exact ⟨q, by simp only [rdet, got_no hp (kw_not (w := kNon) (m := kDet) (by decide)), got_no hp (kw_not (w := kNon) (m := kSemi2) (by decide)), got_no hp (kw_not (w := kNon) (m := kMulti) (by decide)), Bool.false_eq_true, if_false, e, if_true], h⟩
theorem var_par {v : ByteArray} (r : List Tok) : Par l (rword l 2) ([⟨2, v, 0⟩] ++ r) v r := Par.word (t := ⟨2, v, 0⟩) rfl (fun hh => by cases hh.1)
theorem It.par {i : It} (h : i.Good) (b : List Tok) : Par l (ritem l) (i.toks ++ tokDot :: b) i (tokDot :: b) := fun p hp => by
 cases h with
 | @type n vs cs hn h8 hv hne hc =>
  obtain ⟨c, cs, rfl⟩ := List.exists_cons_of_ne_nil hne
  have hp : l.drop p = kw kType :: kw n :: (rowKs (vs.map fun v => [⟨2, v, 0⟩]) ++ tokEq :: (c.toks ++ (tailK tokBar (cs.map Ct.toks) ++ tokDot :: b))) := by
   rw [hp]; simp [It.toks, joinK]
  obtain ⟨q0, q1, e0, e1, h1⟩ := Par.seq (Par.got (l := l) (kw_stands (w := kType))) (par_name hn _) p hp
  obtain ⟨q2, e2, h2⟩ := Par.rowOf (l := l) (f := rword l 2) (tk := fun v => [⟨2, v, 0⟩]) vs h8 (fun y _ t r _ => var_par (t :: r)) (eq_noOpen _) q1 h1
  obtain ⟨e3, h3⟩ := rneed_at (m := kEq) h2 ⟨rfl, .inr rfl⟩
  obtain ⟨q4, e4, h4⟩ := Ct.par (hc c (.head _)) (tail_noOpen (dot_op b) cs) _ h3
  obtain ⟨q5, e5, h5⟩ := rbars_par (l := l) (dot_op b) (not_cons (not_text (by decide))) cs (fun x hx => hc x (.tail _ hx)) l.length [c] q4 h4 (by
   have := drop_len h4
   have h6 := tailK_len tokBar (cs.map Ct.toks)
   simp only [List.length_append, List.length_map] at this h6
   omega)
  refine ⟨q5, ?_, h5⟩
  simp only [ritem, e0, if_true, ritType, e1, e2, e3, e4, e5, List.cons_append, List.nil_append]
 | @pred n ts hn h8 ht =>
  have hp : l.drop p = kw kPred :: kw n :: (rowKs (Ty.tokss ts) ++ tokDot :: b) := by rw [hp]; simp [It.toks]
  have n0 := got_no hp (kw_not (w := kPred) (m := kType) (by decide))
  obtain ⟨q0, q1, e0, e1, h1⟩ := Par.seq (Par.got (l := l) (kw_stands (w := kPred))) (par_name hn _) p hp
  rw [Ty.tokss_map] at h1
  obtain ⟨q2, e2, h2⟩ := Par.rowOf (l := l) (f := rtype 66 l 1) ts h8 (fun y hy t r ht' => Ty.par y 66 1 (by decide) (Ty.goods_mem ht y hy) _ (fun t' r' e => by obtain ⟨rfl, _⟩ := List.cons.inj e; exact comma_close ht')) (dot_op b) q1 h1
  refine ⟨q2, ?_, h2⟩
  simp only [ritem, n0, Bool.false_eq_true, if_false, e0, if_true, ritPred, e1, e2]
 | @mode n ws d hn h8 hd =>
  have hp : l.drop p = kw kMode :: kw n :: (rowKs (ws.map wayK) ++ kw kIs :: kw (detW d) :: tokDot :: b) := by rw [hp]; simp [It.toks]
  have n0 := got_no hp (kw_not (w := kMode) (m := kType) (by decide))
  have n1 := got_no hp (kw_not (w := kMode) (m := kPred) (by decide))
  obtain ⟨q0, q1, e0, e1, h1⟩ := Par.seq (Par.got (l := l) (kw_stands (w := kMode))) (par_name hn _) p hp
  obtain ⟨q2, e2, h2⟩ := Par.rowOf (l := l) (f := rwayIn l) (tk := wayK) ws h8 (fun y _ t r _ => wayIn_par y (t :: r)) (kw_op (by decide) _) q1 h1
  obtain ⟨e3, h3⟩ := rneed_at (m := kIs) h2 (kw_stands)
  obtain ⟨q4, e4, h4⟩ := det_par hd _ _ h3
  refine ⟨q4, ?_, h4⟩
  simp only [ritem, n0, n1, Bool.false_eq_true, if_false, e0, if_true, ritMode, e1, e2, e3, e4]
 | @clause n ts g hn h8 ht hg =>
  have hp : l.drop p = kw n :: (rowKs (Tm.tokss ts) ++ ((if g.kind = 1 then [] else tokIf :: g.toks) ++ tokDot :: b)) := by rw [hp]; simp [It.toks]
  have n0 := got_no hp (name_no hn (m := kType) (by decide))
  have n1 := got_no hp (name_no hn (m := kPred) (by decide))
  have n2 := got_no hp (name_no hn (m := kMode) (by decide))
  obtain ⟨q1, e1, h1⟩ := par_name hn _ p hp
  rw [Tm.tokss_map] at h1
  have hop : NoOpen ((if g.kind = 1 then [] else tokIf :: g.toks) ++ tokDot :: b) := by
   split
   ·exact dot_op b
   ·exact if_op _
  obtain ⟨q2, e2, h2⟩ := Par.rowOf (l := l) (f := rterm 66 l 1) ts h8 (fun y hy t r ht' => Tm.par y 66 1 (by decide) (Tm.goods_mem ht y hy) _ (fun t' r' e => by obtain ⟨rfl, _⟩ := List.cons.inj e; exact comma_close ht')) hop q1 h1
  by_cases hk : g.kind = 1
  ·rw [if_pos hk] at h2
   have n3 := got_no (m := kIf) h2 (not_text (by decide))
   refine ⟨q2, ?_, h2⟩
   have eg : g = .mk 1 .none .none ⟨#[]⟩ [] [] := by
    obtain ⟨k, a, b', m, xs, gs⟩ := g
    have hk : k = 1 := hk
    subst hk
    rcases hg with ⟨_, _, rfl, rfl, rfl, rfl, rfl⟩ | ⟨h, _⟩ | ⟨h, _⟩ | ⟨h, _⟩ | ⟨h | h, _⟩ | ⟨h, _⟩ | ⟨h, _⟩ | ⟨h, _⟩
    ·rfl
    all_goals (exact absurd h (by decide))
   simp only [ritem, n0, n1, n2, Bool.false_eq_true, if_false, ritClause, e1, e2, n3, eg]
  ·rw [if_neg hk] at h2
   obtain ⟨q3, q4, e3, e4, h4⟩ := Par.seq (Par.got (l := l) (t := tokIf) (m := kIf) ⟨rfl, .inr rfl⟩) (Gl.par (l := l) g (f := 66) (d := 1) (by decide) hg (b := tokDot :: b) (folP_cons (not_text (by decide)) (not_text (by decide))) (not_cons (not_text (by decide))) (not_cons (not_text (by decide)))) q2 h2
   refine ⟨q4, ?_, h4⟩
   simp only [ritem, n0, n1, n2, Bool.false_eq_true, if_false, ritClause, e1, e2, e3, e4, if_true]
theorem src_items : ∀ (is : List It), (∀ i ∈ is, i.Good) → Items l (itsK is) is
 | [], _ => .nil
 | i :: is, h => .cons (by intro e; have := congrArg List.length e; simp [itsK] at this) (It.par (h i (.head _)) (itsK is)) (src_items is fun j hj => h j (.tail _ hj))
end
theorem itsK_len : ∀ is : List It, is.length ≤ (itsK is).length
 | [] => Nat.le_refl _
 | i :: is => by have := itsK_len is; simp only [itsK, List.length_cons, List.length_append]; omega
theorem src_back {is : List It} (h : ∀ i ∈ is, i.Good) (hn : is.length ≤ 512) : rsource (itsK is) 0 = (is, 0) := rsource_of (src_items is h) hn (itsK_len is)
section
variable {l : List Tok} {s : RdS}
theorem rword_name (hl : TkOk l) (h : (rword l 1 s).2.err = 0) : NameOk (rword l 1 s).1 := by
 obtain ⟨t, ht, tk, tr, te⟩ := rword_tok h
 rw [te]
 exact ⟨(hl.at_ ht).name tk, tr rfl⟩
theorem rctor_good (hl : TkOk l) (he : s.err = 0) (h0 : (rctor l s).2.err = 0) : (rctor l s).1.Good := by
 simp only [rctor] at h0 ⊢
 by_cases hw : (rword l 1 s).2.err = 0
 ·obtain ⟨g1, g2⟩ := rargs_good (P := Ty.good 1) (rtype_good hl 66 1 (by decide) (by decide)) (fun s h => rtype_end (by decide) h) 10 [] _ hw h0 (fun x hx => by cases hx) (by simp)
  exact ⟨rword_name hl hw, g2, Ty.goods_of g1⟩
 ·rw [rargs_stop hw] at h0
  exact absurd h0 hw
theorem rbars_good (hl : TkOk l) : ∀ (k : Nat) (cs : List Ct) (s : RdS), s.err = 0 → (rbars l k cs s).2.err = 0 → cs ≠ [] → (∀ c ∈ cs, c.Good) → (rbars l k cs s).1 ≠ [] ∧ ∀ c ∈ (rbars l k cs s).1, c.Good
 | 0, cs, s, _, _, h1, h2 => ⟨h1, h2⟩
 | k + 1, cs, s, he, h0, h1, h2 => by
  simp only [rbars] at h0 ⊢
  split at h0
  ·rename_i hg
   rw [if_pos hg]
   by_cases hqe : (rctor l (rgot l kBar s).2).2.err = 0
   ·refine rbars_good hl k _ _ hqe h0 (by simp) fun c hc => ?_
    rcases List.mem_append.1 hc with hc | hc
    ·exact h2 c hc
    ·rw [List.mem_singleton.1 hc]; exact rctor_good hl (by rw [rgot_err]; exact he) hqe
   ·rw [rbars_e hqe] at h0
    exact absurd h0 hqe
  ·rename_i hg
   rw [if_neg hg]; exact ⟨h1, h2⟩
theorem rdet_good (h0 : (rdet l s).2.err = 0) : (rdet l s).1 = 1 ∨ (rdet l s).1 = 2 ∨ (rdet l s).1 = 3 ∨ (rdet l s).1 = 4 := by
 unfold rdet at h0 ⊢
 by_cases c1 : (rgot l kDet s).1 = true
 ·rw [if_pos c1]; exact .inl rfl
 rw [if_neg c1] at h0 ⊢
 by_cases c2 : (rgot l kSemi2 s).1 = true
 ·rw [if_pos c2]; exact .inr (.inl rfl)
 rw [if_neg c2] at h0 ⊢
 by_cases c3 : (rgot l kMulti s).1 = true
 ·rw [if_pos c3]; exact .inr (.inr (.inl rfl))
 rw [if_neg c3] at h0 ⊢
 by_cases c4 : (rgot l kNon s).1 = true
 ·rw [if_pos c4]; exact .inr (.inr (.inr rfl))
 rw [if_neg c4] at h0
 exact absurd h0 (rfail_err (by decide) _)
theorem ritem_good (hl : TkOk l) (he : s.err = 0) (h0 : (ritem l s).2.err = 0) : (ritem l s).1.Good := by
 have ge := fun t => show (rgot l t s).2.err = 0 by rw [rgot_err]; exact he
 simp only [ritem] at h0 ⊢
 by_cases c1 : (rgot l kType s).1 = true
 ·rw [if_pos c1] at h0 ⊢
  generalize (rgot l kType s).2 = s1 at h0
  simp only [ritType] at h0 ⊢
  have n3 : (rctor l (rneed l kEq (rargs (rword l 2) l 10 [] (rword l 1 s1).2).2)).2.err = 0 := by
   apply Classical.byContradiction; intro hn
   rw [rbars_e hn] at h0; exact hn h0
  have n2 : (rneed l kEq (rargs (rword l 2) l 10 [] (rword l 1 s1).2).2).err = 0 := by
   apply Classical.byContradiction; intro hn
   simp only [rctor, rword_err hn, rargs_stop hn] at n3; exact hn n3
  have n1 := (rneed_ok n2).1
  have n0 : (rword l 1 s1).2.err = 0 := by
   apply Classical.byContradiction; intro hn
   rw [rargs_stop hn] at n1; exact hn n1
  obtain ⟨g1, g2⟩ := rargs_good (P := fun v => IsTk ⟨2, v, 0⟩) (fun s _ h => by obtain ⟨t, ht, tk, _, te⟩ := rword_tok h; rw [te]; exact (hl.at_ ht).var tk) (fun s h => rword_end h) 10 [] _ n0 n1 (fun x hx => by cases hx) (by simp)
  obtain ⟨g3, g4⟩ := rbars_good hl l.length [_] _ n3 h0 (by simp) (fun c hc => by rw [List.mem_singleton.1 hc]; exact rctor_good hl n2 n3)
  exact .type (rword_name hl n0) g2 g1 g3 g4
 rw [if_neg c1] at h0 ⊢
 by_cases c2 : (rgot l kPred s).1 = true
 ·rw [if_pos c2] at h0 ⊢
  generalize (rgot l kPred s).2 = s1 at h0
  simp only [ritPred] at h0 ⊢
  have n0 : (rword l 1 s1).2.err = 0 := by
   apply Classical.byContradiction; intro hn
   rw [rargs_stop hn] at h0; exact hn h0
  obtain ⟨g1, g2⟩ := rargs_good (P := Ty.good 1) (rtype_good hl 66 1 (by decide) (by decide)) (fun s h => rtype_end (by decide) h) 10 [] _ n0 h0 (fun x hx => by cases hx) (by simp)
  exact .pred (rword_name hl n0) g2 (Ty.goods_of g1)
 rw [if_neg c2] at h0 ⊢
 by_cases c3 : (rgot l kMode s).1 = true
 ·rw [if_pos c3] at h0 ⊢
  generalize (rgot l kMode s).2 = s1 at h0
  simp only [ritMode] at h0 ⊢
  have n2 : (rneed l kIs (rargs (rwayIn l) l 10 [] (rword l 1 s1).2).2).err = 0 := by
   apply Classical.byContradiction; intro hn
   exact rdet_err hn h0
  have n1 := (rneed_ok n2).1
  have n0 : (rword l 1 s1).2.err = 0 := by
   apply Classical.byContradiction; intro hn
   rw [rargs_stop hn] at n1; exact hn n1
  obtain ⟨_, g2⟩ := rargs_good (P := fun _ => True) (fun s _ _ => trivial) (fun s h => rwayIn_end h) 10 [] _ n0 n1 (fun x hx => by cases hx) (by simp)
  exact .mode (rword_name hl n0) g2 (rdet_good h0)
 rw [if_neg c3] at h0 ⊢
 simp only [ritClause] at h0 ⊢
 have n1 : (rargs (rterm 66 l 1) l 10 [] (rword l 1 s).2).2.err = 0 := by
  apply Classical.byContradiction; intro hn
  simp only [rgot_errs hn, Bool.false_eq_true, if_false] at h0; exact hn h0
 have n0 : (rword l 1 s).2.err = 0 := by
  apply Classical.byContradiction; intro hn
  rw [rargs_stop hn] at n1; exact hn n1
 obtain ⟨g1, g2⟩ := rargs_good (P := Tm.good 1) (rterm_good hl 66 1 (by decide) (by decide)) (fun s h => rterm_end (by decide) h) 10 [] _ n0 n1 (fun x hx => by cases hx) (by simp)
 by_cases c : (rgot l kIf (rargs (rterm 66 l 1) l 10 [] (rword l 1 s).2).2).1 = true
 ·rw [if_pos c] at h0 ⊢
  exact .clause (rword_name hl n0) g2 (Tm.goods_of g1) (rgoal_good hl (by decide) (by decide) (by rw [rgot_err]; exact n1) h0)
 ·rw [if_neg c]
  exact .clause (rword_name hl n0) g2 (Tm.goods_of g1) (.inl ⟨rfl, by decide, rfl, rfl, rfl, rfl, rfl⟩)
theorem ritems_good (hl : TkOk l) : ∀ (k : Nat) (is : List It) (s : RdS), s.err = 0 → (ritems l k is s).2.err = 0 → (∀ i ∈ is, i.Good) → ∀ i ∈ (ritems l k is s).1, i.Good
 | 0, is, s, _, _, h => h
 | k + 1, is, s, he, h0, h => by
  cases hr : rend l s with
  | true => rw [ritems_stop hr]; exact h
  | false =>
   obtain ⟨_, g1, g2, _, _, e⟩ := ritems_one hr h0
   rw [e] at h0 ⊢
   refine ritems_good hl k _ _ g2 h0 fun i hi => ?_
   rcases List.mem_append.1 hi with hi | hi
   ·exact h i hi
   ·rw [List.mem_singleton.1 hi]; exact ritem_good hl he g1
end
theorem source_good {s : ByteArray} {is : List It} (h : rsource (rlex s).1 (rlex s).2 = (is, 0)) : (∀ i ∈ is, i.Good) ∧ is.length ≤ 512 := by
 obtain ⟨l, e1, r1⟩ := rsrc_ok.1 h
 have hl := rlex_f s
 rw [e1] at hl
 obtain ⟨a1, a2, _⟩ := rsource_ok.1 r1
 rw [← a1]
 exact ⟨ritems_good hl _ _ _ rfl a2 (fun i hi => by cases hi), ritems_length _ _ _ (by simp)⟩
def bytesB (l : List UInt8) : ByteArray := ⟨l.toArray⟩
theorem bytesB_size (l : List UInt8) : (bytesB l).size = l.length := by simp [bytesB, ByteArray.size]
theorem source_back {is : List It} (h : ∀ i ∈ is, i.Good) (hn : is.length ≤ 512) : if (itsT is).length ≤ 16384 then rlex (bytesB (itsT is)) = (itsK is, 0) ∧ rsource (rlex (bytesB (itsT is))).1 (rlex (bytesB (itsT is))).2 = (is, 0) else rsource (rlex (bytesB (itsT is))).1 (rlex (bytesB (itsT is))).2 = ([], 4) := by
 split
 ·rename_i hs
  have hl : rlex (bytesB (itsT is)) = (itsK is, 0) := rlex_lexed.2 ⟨by rw [bytesB_size]; exact hs, src_lex is h⟩
  rw [hl]
  exact ⟨rfl, src_back h hn⟩
 ·rename_i hs
  have hl : rlex (bytesB (itsT is)) = ([], 4) := by unfold rlex; rw [if_pos (by rw [bytesB_size]; omega)]
  rw [hl]
  exact rsource_err (by decide)
end Go.Aug

/- Plain: what is read is not large. -/
namespace Go.Aug
set_option maxRecDepth 100000
set_option linter.unusedSimpArgs false
set_option linter.unusedVariables false
theorem nodess_append : ∀ (xs ys : List Tm), Tm.nodess (xs ++ ys) = Tm.nodess xs + Tm.nodess ys
 | [], ys => by simp [Tm.nodess]
 | x :: xs, ys => by simp only [List.cons_append, Tm.nodess, nodess_append xs ys]; omega
theorem rargs_nodes {p : RdS → Tm × RdS} {l : List Tok} (hp : ∀ s, (p s).1.nodes + s.pos ≤ 1 + (p s).2.pos) : ∀ (k : Nat) (xs : List Tm) (s : RdS), Tm.nodess (rargs p l k xs s).1 + s.pos ≤ Tm.nodess xs + (rargs p l k xs s).2.pos
 | 0, xs, s => Nat.le_refl _
 | k + 1, xs, s => by
  simp only [rargs]
  split
  ·split
   ·rename_i h1 h2
    have hm := (rmore_true h2).2.1
    have h3 := hp (rmore l xs.length s).2
    have h4 := rargs_nodes (l := l) hp k (xs ++ [(p (rmore l xs.length s).2).1]) (p (rmore l xs.length s).2).2
    rw [nodess_append] at h4
    simp only [Tm.nodess] at h4
    omega
   ·have := rmore_ge l xs.length s; show Tm.nodess xs + s.pos ≤ Tm.nodess xs + (rmore l xs.length s).2.pos; omega
  ·exact Nat.le_refl _
theorem rterm_nodes {l : List Tok} : ∀ (f n : Nat) (s : RdS), (rterm f l n s).1.nodes + s.pos ≤ 1 + (rterm f l n s).2.pos
 | 0, _, s => Nat.le_refl _
 | f + 1, n, s => by
  have hn := rnest_pos l n s
  have hw := rword_ge l 1 (rnest l n s)
  have h1 := rargs_nodes (l := l) (rterm_nodes (l := l) f (n + 1)) 10 [] (rword l 1 (rnest l n s)).2
  simp only [Tm.nodess] at h1
  simp only [rterm]
  split
  ·split
   ·simp only [Tm.nodes, Tm.nodess]; omega
   ·split
    ·simp only [Tm.nodes, Tm.nodess]; omega
    ·simp only [Tm.nodes]; omega
  ·simp only [Tm.nodes]; omega
theorem gnodess_append : ∀ (xs ys : List Gl), Gl.nodess (xs ++ ys) = Gl.nodess xs + Gl.nodess ys
 | [], ys => by simp [Gl.nodess]
 | x :: xs, ys => by simp only [List.cons_append, Gl.nodess, gnodess_append xs ys]; omega
theorem gnodes_none (k : Int) (n : ByteArray) (xs : List Tm) (gs : List Gl) : (Gl.mk k .none .none n xs gs).nodes = 3 + Tm.nodess xs + Gl.nodess gs := by simp only [Gl.nodes, Tm.none, Tm.nodes, Tm.nodess]
theorem headD_nodes : ∀ gs : List Gl, (gs.headD default).nodes ≤ 3 + Gl.nodess gs
 | [] => by show (Gl.mk 0 .none .none ⟨#[]⟩ [] []).nodes ≤ _; rw [gnodes_none]; simp [Tm.nodess, Gl.nodess]
 | g :: gs => by simp only [List.headD_cons, Gl.nodess]; omega
theorem headD_nodes1 {gs : List Gl} (h : gs ≠ []) : (gs.headD default).nodes ≤ Gl.nodess gs := by
 cases gs with
 | nil => exact absurd rfl h
 | cons g gs => simp only [List.headD_cons, Gl.nodess]; omega
theorem rands_nodes {p : RdS → Gl × RdS} {l : List Tok} (hp : ∀ s, (p s).1.nodes + 6 * s.pos ≤ 3 + 6 * (p s).2.pos) : ∀ (k : Nat) (gs : List Gl) (s : RdS), Gl.nodess (rands p l k gs s).1 + 6 * s.pos ≤ Gl.nodess gs + 6 * (rands p l k gs s).2.pos
 | 0, gs, s => Nat.le_refl _
 | k + 1, gs, s => by
  simp only [rands]
  split
  ·rename_i h
   have hm := (rgot_true h).2.1
   have h3 := hp (rgot l kComma s).2
   have h4 := rands_nodes (l := l) hp k (gs ++ [(p (rgot l kComma s).2).1]) (p (rgot l kComma s).2).2
   rw [gnodess_append] at h4
   simp only [Gl.nodess] at h4
   omega
  ·exact Nat.le_refl _
theorem rands_ne {p : RdS → Gl × RdS} {l : List Tok} : ∀ (k : Nat) (gs : List Gl) (s : RdS), gs ≠ [] → (rands p l k gs s).1 ≠ []
 | 0, gs, s, h => h
 | k + 1, gs, s, h => by
  simp only [rands]
  split
  ·exact rands_ne k _ _ (by simp)
  ·exact h
theorem rway_nodes {p : RdS → Gl × RdS} {l : List Tok} (hp : ∀ s, (p s).1.nodes + 6 * s.pos ≤ 3 + 6 * (p s).2.pos) (s : RdS) : (rway p l s).1.nodes + 6 * s.pos ≤ 6 + 6 * (rway p l s).2.pos := by
 have h1 := rands_nodes (l := l) hp l.length [(p s).1] (p s).2
 have h2 := hp s
 simp only [Gl.nodess] at h1
 simp only [rway, allOf]
 split
 ·rw [gnodes_none]; simp only [Tm.nodess]; omega
 ·have := headD_nodes1 (rands_ne (p := p) (l := l) l.length [(p s).1] (p s).2 (by simp)); omega
theorem rors_nodes {p : RdS → Gl × RdS} {l : List Tok} (hp : ∀ s, (p s).1.nodes + 6 * s.pos ≤ 3 + 6 * (p s).2.pos) : ∀ (k : Nat) (os : List Gl) (s : RdS), Gl.nodess (rors p l k os s).1 + 6 * s.pos ≤ Gl.nodess os + 6 + 6 * (rors p l k os s).2.pos
 | 0, os, s => by simp only [rors]; omega
 | k + 1, os, s => by
  have hw := rway_nodes (l := l) hp s
  simp only [rors]
  split
  ·split
   ·rename_i h
    have hm := (rgot_true h).2.1
    have h4 := rors_nodes (l := l) hp k (os ++ [(rway p l s).1]) (rgot l kSemi (rway p l s).2).2
    rw [gnodess_append] at h4
    simp only [Gl.nodess] at h4
    omega
   ·show Gl.nodess (os ++ [(rway p l s).1]) + 6 * s.pos ≤ Gl.nodess os + 6 + 6 * (rway p l s).2.pos
    rw [gnodess_append]
    simp only [Gl.nodess]; omega
  ·show Gl.nodess os + 6 * s.pos ≤ Gl.nodess os + 6 + 6 * s.pos
   omega
theorem rgoalW_nodes {p : RdS → Gl × RdS} {l : List Tok} (hp : ∀ s, (p s).1.nodes + 6 * s.pos ≤ 3 + 6 * (p s).2.pos) (s : RdS) : (rgoalW p l s).1.nodes + 6 * s.pos ≤ 9 + 6 * (rgoalW p l s).2.pos := by
 have h := rors_nodes (l := l) hp (l.length + 1) [] s
 simp only [Gl.nodess] at h
 simp only [rgoalW, anyOf]
 split
 ·have := headD_nodes (rors p l (l.length + 1) [] s).1; omega
 ·rw [gnodes_none]; simp only [Tm.nodess]; omega
theorem Tm.nodes_args (t : Tm) : t.nodes = 1 + Tm.nodess t.args := by cases t; rfl
theorem rprim_nodes {l : List Tok} : ∀ (f n : Nat) (s : RdS), (rprim f l n s).1.nodes + 6 * s.pos ≤ 3 + 6 * (rprim f l n s).2.pos
 | 0, _, s => by show (Gl.mk 0 .none .none ⟨#[]⟩ [] []).nodes + _ ≤ _; rw [gnodes_none]; simp only [Tm.nodess, Gl.nodess]; exact Nat.le_refl _
 | f + 1, n, s0 => by
  have hn := rnest_pos l n s0
  have ih := rprim_nodes (l := l) f (n + 1)
  simp only [rprim]
  generalize rnest l n s0 = s at hn ⊢
  split
  ·rename_i h; have hm := (rgot_true h).2.1; simp only [gnodes_none, Tm.nodess, Gl.nodess]; omega
  split
  ·rename_i h; have hm := (rgot_true h).2.1; simp only [gnodes_none, Tm.nodess, Gl.nodess]; omega
  split
  ·rename_i h; have hm := (rgot_true h).2.1; have h1 := ih (rgot l kNot s).2; simp only [gnodes_none, Tm.nodess, Gl.nodess]; omega
  split
  ·rename_i h; have hm := (rgot_true h).2.1; have h1 := rterm_nodes (l := l) f (n + 1) (rgot l kThrow s).2; simp only [Gl.nodes, Tm.none, Tm.nodes, Tm.nodess, Gl.nodess]; omega
  split
  ·rename_i h
   have hm := (rgot_true h).2.1
   have h1 := ih (rgot l kTry s).2
   have h2 := rneed_ge l kCatch (rprim f l (n + 1) (rgot l kTry s).2).2
   have h3 := rword_ge l 2 (rneed l kCatch (rprim f l (n + 1) (rgot l kTry s).2).2)
   have h4 := rneed_ge l kThen (rword l 2 (rneed l kCatch (rprim f l (n + 1) (rgot l kTry s).2).2)).2
   have h5 := ih (rneed l kThen (rword l 2 (rneed l kCatch (rprim f l (n + 1) (rgot l kTry s).2).2)).2)
   simp only [rtry, gnodes_none, Tm.nodess, Gl.nodess]; omega
  split
  ·rename_i h
   have hm := (rgot_true h).2.1
   have h1 := rgoalW_nodes (l := l) ih (rgot l kOpen s).2
   have h2 := rneed_ge l kClose (rgoalW (rprim f l (n + 1)) l (rgot l kOpen s).2).2
   show (rgoalW (rprim f l (n + 1)) l (rgot l kOpen s).2).1.nodes + _ ≤ 3 + 6 * (rneed l kClose (rgoalW (rprim f l (n + 1)) l (rgot l kOpen s).2).2).pos
   omega
  ·have h1 := rterm_nodes (l := l) f (n + 1) s
   have h7 := (rterm f l (n + 1) s).1.nodes_pos
   simp only [rcall]
   split
   ·rename_i h
    have hm := (rgot_true h).2.1
    have h2 := rterm_nodes (l := l) f (n + 1) (rgot l kEq (rterm f l (n + 1) s).2).2
    have h5 := (rterm f l (n + 1) s).1.nodes_pos
    have h6 := (rterm f l (n + 1) (rgot l kEq (rterm f l (n + 1) s).2).2).1.nodes_pos
    simp only [Gl.nodes, Tm.nodess, Gl.nodess]; omega
   ·have h3 := Tm.nodes_args (rterm f l (n + 1) s).1
    simp only [gnodes_none, Gl.nodess]
    split
    ·omega
    ·rw [rfail_pos]; omega
theorem rgoal_nodes {l : List Tok} (f n : Nat) (s : RdS) : (rgoal f l n s).1.nodes + 6 * s.pos ≤ 9 + 6 * (rgoal f l n s).2.pos := rgoalW_nodes (fun s => rprim_nodes f n s) s
def sumOf {α : Type} (μ : α → Nat) : List α → Nat
 | [] => 0
 | x :: l => μ x + sumOf μ l
theorem sumOf_app {α : Type} (μ : α → Nat) : ∀ (a b : List α), sumOf μ (a ++ b) = sumOf μ a + sumOf μ b
 | [], b => by simp [sumOf]
 | x :: a, b => by simp only [List.cons_append, sumOf, sumOf_app μ a b]; omega
theorem rargs_wt {α : Type} (μ : α → Nat) {p : RdS → α × RdS} {l : List Tok} (hp : ∀ s, μ (p s).1 + s.pos ≤ 1 + (p s).2.pos) : ∀ (k : Nat) (xs : List α) (s : RdS), sumOf μ (rargs p l k xs s).1 + s.pos ≤ sumOf μ xs + (rargs p l k xs s).2.pos
 | 0, xs, s => Nat.le_refl _
 | k + 1, xs, s => by
  simp only [rargs]
  have hge := rmore_ge l xs.length s
  split
  ·split
   ·rename_i hm
    have h1 := rargs_wt μ (l := l) hp k (xs ++ [(p (rmore l xs.length s).2).1]) (p (rmore l xs.length s).2).2
    have h2 := hp (rmore l xs.length s).2
    have h3 := (rmore_true hm).2.1
    rw [sumOf_app] at h1
    simp only [sumOf] at h1
    omega
   ·simp only; omega
  ·exact Nat.le_refl _
theorem Ty.nodess_sum : ∀ l : List Ty, Ty.nodess l = sumOf Ty.nodes l
 | [] => rfl
 | t :: l => by rw [Ty.nodess, sumOf, Ty.nodess_sum l]
theorem rtype_nodes {l : List Tok} : ∀ (f n : Nat) (s : RdS), (rtype f l n s).1.nodes + s.pos ≤ 1 + (rtype f l n s).2.pos
 | 0, n, s => by simp only [rtype]; show (Ty.nodes default) + s.pos ≤ 1 + s.pos; have : (default : Ty).nodes = 1 := rfl; omega
 | f + 1, n, s => by
  have hp := rnest_pos l n s
  have hw := rargs_wt Ty.nodes (l := l) (rtype_nodes (l := l) f (n + 1)) 10 [] (rword l 1 (rnest l n s)).2
  have hg := rword_ge l 1 (rnest l n s)
  have hi := rgot_ge l kInt (rnest l n s)
  simp only [sumOf] at hw
  simp only [rtype]
  repeat' split
  ·simp only [Ty.nodes, Ty.nodess]; omega
  ·simp only [Ty.nodes, Ty.nodess]; omega
  ·simp only [Ty.nodes, Ty.nodess_sum]; omega
def Ct.nodes (c : Ct) : Nat := 1 + Ty.nodess c.args
def It.wt (i : It) : Nat := i.body.nodes + Tm.nodess i.args + Ty.nodess i.types + sumOf Ct.nodes i.ctors + i.vars.length + i.ways.length
theorem sumOf_one {α : Type} : ∀ l : List α, sumOf (fun _ => 1) l = l.length
 | [] => rfl
 | x :: l => by rw [sumOf, sumOf_one l, List.length_cons]; omega
theorem rctor_nodes {l : List Tok} (s : RdS) : (rctor l s).1.nodes + s.pos ≤ 1 + (rctor l s).2.pos := by
 have hw := rargs_wt Ty.nodes (l := l) (rtype_nodes (l := l) 66 1) 10 [] (rword l 1 s).2
 have hg := rword_ge l 1 s
 simp only [sumOf] at hw
 simp only [rctor, Ct.nodes, Ty.nodess_sum]; omega
theorem rbars_nodes {l : List Tok} : ∀ (k : Nat) (cs : List Ct) (s : RdS), sumOf Ct.nodes (rbars l k cs s).1 + s.pos ≤ sumOf Ct.nodes cs + (rbars l k cs s).2.pos
 | 0, cs, s => Nat.le_refl _
 | k + 1, cs, s => by
  simp only [rbars]
  split
  ·rename_i hg
   have h1 := rbars_nodes (l := l) k (cs ++ [(rctor l (rgot l kBar s).2).1]) (rctor l (rgot l kBar s).2).2
   have h2 := rctor_nodes (l := l) (rgot l kBar s).2
   have h3 := (rgot_true hg).2.1
   rw [sumOf_app] at h1
   simp only [sumOf] at h1
   omega
  ·exact Nat.le_refl _
theorem ritem_wt {l : List Tok} (s : RdS) : (ritem l s).1.wt + 6 * s.pos ≤ 12 + 6 * (ritem l s).2.pos := by
 have hb : (Gl.mk 0 .none .none ⟨#[]⟩ [] []).nodes = 3 := rfl
 unfold ritem
 split
 ·have g0 := rgot_ge l kType s
  generalize (rgot l kType s).2 = s1 at g0
  simp only [ritType]
  have g1 := rword_ge l 1 s1
  have g2 := rargs_wt (fun _ => 1) (l := l) (p := rword l 2) (fun s => by have := rword_ge l 2 s; omega) 10 [] (rword l 1 s1).2
  have g3 := rneed_ge l kEq (rargs (rword l 2) l 10 [] (rword l 1 s1).2).2
  have g4 := rctor_nodes (l := l) (rneed l kEq (rargs (rword l 2) l 10 [] (rword l 1 s1).2).2)
  have g5 := rbars_nodes (l := l) l.length [(rctor l (rneed l kEq (rargs (rword l 2) l 10 [] (rword l 1 s1).2).2)).1] (rctor l (rneed l kEq (rargs (rword l 2) l 10 [] (rword l 1 s1).2).2)).2
  simp only [sumOf, sumOf_one] at g2 g5
  show Gl.nodes (Gl.mk 0 .none .none ⟨#[]⟩ [] []) + Tm.nodess [] + Ty.nodess [] + _ + _ + 0 + _ ≤ _
  rw [hb]
  simp only [Tm.nodess, Ty.nodess]
  omega
 split
 ·have g0 := rgot_ge l kPred s
  generalize (rgot l kPred s).2 = s1 at g0
  simp only [ritPred]
  have g1 := rword_ge l 1 s1
  have g2 := rargs_wt Ty.nodes (l := l) (rtype_nodes (l := l) 66 1) 10 [] (rword l 1 s1).2
  simp only [sumOf] at g2
  show Gl.nodes (Gl.mk 0 .none .none ⟨#[]⟩ [] []) + Tm.nodess [] + Ty.nodess _ + 0 + 0 + 0 + _ ≤ _
  rw [hb]
  simp only [Tm.nodess, Ty.nodess_sum]
  omega
 split
 ·have g0 := rgot_ge l kMode s
  generalize (rgot l kMode s).2 = s1 at g0
  simp only [ritMode]
  have g1 := rword_ge l 1 s1
  have g2 := rargs_wt (fun _ => 1) (l := l) (p := rwayIn l) (fun s => by have := (rwayIn_steps l).ge s; omega) 10 [] (rword l 1 s1).2
  have g3 := rneed_ge l kIs (rargs (rwayIn l) l 10 [] (rword l 1 s1).2).2
  have g4 := (rdet_steps l).ge (rneed l kIs (rargs (rwayIn l) l 10 [] (rword l 1 s1).2).2)
  simp only [sumOf, sumOf_one] at g2
  show Gl.nodes (Gl.mk 0 .none .none ⟨#[]⟩ [] []) + Tm.nodess [] + Ty.nodess [] + 0 + 0 + _ + _ ≤ _
  rw [hb]
  simp only [Tm.nodess, Ty.nodess]
  omega
 ·have hw := rword_ge l 1 s
  have h1 := rargs_nodes (l := l) (rterm_nodes (l := l) 66 1) 10 [] (rword l 1 s).2
  simp only [Tm.nodess] at h1
  simp only [ritClause]
  split
  ·rename_i h
   have hm := (rgot_true h).2.1
   have h2 := rgoal_nodes (l := l) 66 1 (rgot l kIf (rargs (rterm 66 l 1) l 10 [] (rword l 1 s).2).2).2
   show Gl.nodes _ + Tm.nodess _ + Ty.nodess [] + 0 + 0 + 0 + _ ≤ _
   simp only [Ty.nodess]
   omega
  ·show Gl.nodes (Gl.mk 1 .none .none ⟨#[]⟩ [] []) + Tm.nodess _ + Ty.nodess [] + 0 + 0 + 0 + _ ≤ _
   rw [show Gl.nodes (Gl.mk 1 .none .none ⟨#[]⟩ [] []) = 3 from rfl]
   simp only [Ty.nodess]
   omega
theorem ritems_wt {l : List Tok} (hl : l.length ≤ 16384) : ∀ (k : Nat) (is : List It) (s : RdS), s.pos ≤ l.length → (∀ i ∈ is, i.wt ≤ 98316) → ∀ i ∈ (ritems l k is s).1, i.wt ≤ 98316
 | 0, is, s, _, h => h
 | k + 1, is, s, hs, h => by
  simp only [ritems]
  split
  ·exact h
  ·split
   ·exact h
   ·refine ritems_wt hl k _ _ (rneed_le ((ritem_steps l).le _ hs)) fun i hi => ?_
    rcases List.mem_append.1 hi with hi | hi
    ·exact h i hi
    ·rw [List.mem_singleton.1 hi]
     have h1 := ritem_wt (l := l) s
     have h2 := (ritem_steps l).le _ hs
     omega
theorem tk_short {k : Int} {n : ByteArray} (hk : k = 1 ∨ k = 2) (h : IsTk ⟨k, n, 0⟩) : n.size ≤ 32 := by
 obtain ⟨c, w, h⟩ := h
 have hw := h.word ⟨⟨c :: w⟩⟩ 0 [] (by simp) (.inr (fun x hx => by cases hx))
 have hc : (⟨⟨c :: w⟩⟩ : ByteArray)[0]? = some c := by rw [ba_list]; rfl
 have hkk : (rWord ⟨⟨c :: w⟩⟩ 0 c).1.kind = k := by rw [hw]
 have hok : (rWord ⟨⟨c :: w⟩⟩ 0 c).2 = true := by rw [hw]
 have htx : (rWord ⟨⟨c :: w⟩⟩ 0 c).1.text = n := by rw [hw]
 rw [← htx]
 unfold rWord at hok hkk ⊢
 by_cases hl : isLet c = true
 ·rw [if_pos hl] at hok ⊢
  simp only [wordAl] at hok ⊢
  have := of_decide_eq_true hok
  rw [ByteArray.size_extract]
  omega
 ·rw [if_neg hl] at hkk
  exfalso
  split at hkk
  ·simp only [wordInt] at hkk; omega
  ·split at hkk
   ·simp only at hkk; omega
   ·split at hkk
    ·simp only at hkk; omega
    ·simp only at hkk; omega
mutual
theorem Tm.sz : ∀ (t : Tm) (d : Nat), t.good d → D.sizes t.cs + 1 ≤ 42 * t.nodes
 | .mk k n i args, d, ⟨_, h⟩ => by
  have hn : n.size ≤ 32 := by
   rcases h with ⟨_, h, _⟩ | ⟨_, rfl, _⟩ | ⟨_, _, h, _⟩
   ·exact tk_short (.inr rfl) h
   ·decide
   ·exact tk_short (.inl rfl) h
  have ha : D.sizes (Tm.ds args) ≤ 42 * Tm.nodess args := by
   rcases h with ⟨_, _, _, rfl⟩ | ⟨_, _, _, rfl⟩ | ⟨_, _, _, _, _, h⟩
   ·simp [Tm.ds, D.sizes]
   ·simp [Tm.ds, D.sizes]
   ·exact Tm.szs args (d + 1) h
  simp only [Tm.cs, D.sizes, D.size, Tm.nodes]
  omega
theorem Tm.szs : ∀ (l : List Tm) (d : Nat), Tm.goods d l → D.sizes (Tm.ds l) ≤ 42 * Tm.nodess l
 | [], _, _ => by simp [Tm.ds, D.sizes]
 | t :: l, d, ⟨h1, h2⟩ => by
  have a := Tm.sz t d h1
  have b := Tm.szs l d h2
  simp only [Tm.ds, D.sizes, D.size, Tm.nodess]
  omega
end
mutual
theorem Ty.sz : ∀ (t : Ty) (d : Nat), t.good d → D.sizes t.cs + 1 ≤ 42 * t.nodes
 | .mk v n args, d, ⟨_, h⟩ => by
  have hn : n.size ≤ 32 := by
   rcases h with ⟨_, h, _⟩ | ⟨_, rfl, _⟩ | ⟨_, h, _⟩
   ·exact tk_short (.inr rfl) h
   ·decide
   ·exact tk_short (.inl rfl) h
  have ha : D.sizes (Ty.ds args) ≤ 42 * Ty.nodess args := by
   rcases h with ⟨_, _, rfl⟩ | ⟨_, _, rfl⟩ | ⟨_, _, _, _, h⟩
   ·simp [Ty.ds, D.sizes]
   ·simp [Ty.ds, D.sizes]
   ·exact Ty.szs args (d + 1) h
  simp only [Ty.cs, D.sizes, D.size, Ty.nodes]
  omega
theorem Ty.szs : ∀ (l : List Ty) (d : Nat), Ty.goods d l → D.sizes (Ty.ds l) ≤ 42 * Ty.nodess l
 | [], _, _ => by simp [Ty.ds, D.sizes]
 | t :: l, d, ⟨h1, h2⟩ => by
  have a := Ty.sz t d h1
  have b := Ty.szs l d h2
  simp only [Ty.ds, D.sizes, D.size, Ty.nodess]
  omega
end
theorem Tm.none_sz : D.sizes Tm.none.cs + 1 ≤ 42 * Tm.none.nodes := by decide
mutual
theorem Gl.sz : ∀ (g : Gl) (d : Nat), g.good d → D.sizes g.cs + 1 ≤ 42 * g.nodes
 | .mk k a b n args gs, d, h => by
  have hz : (⟨#[]⟩ : ByteArray).size = 0 := rfl
  have n0 := Tm.none_sz
  have key : D.sizes a.cs + 1 ≤ 42 * a.nodes ∧ D.sizes b.cs + 1 ≤ 42 * b.nodes ∧ n.size ≤ 32 ∧ D.sizes (Tm.ds args) ≤ 42 * Tm.nodess args ∧ D.sizes (Gl.ds gs) ≤ 42 * Gl.nodess gs := by
   have e1 : D.sizes (Tm.ds []) ≤ 42 * Tm.nodess [] := by simp [Tm.ds, D.sizes]
   have e2 : D.sizes (Gl.ds []) ≤ 42 * Gl.nodess [] := by simp [Gl.ds, D.sizes]
   rcases h with ⟨_, _, rfl, rfl, rfl, rfl, rfl⟩ | ⟨_, _, rfl, rfl, rfl, rfl, rfl⟩ | ⟨_, _, ha, hb, rfl, rfl, rfl⟩ | ⟨_, _, rfl, rfl, hc, rfl⟩ | ⟨_, rfl, rfl, rfl, rfl, _, hg⟩ | ⟨_, _, rfl, rfl, rfl, rfl, _, hg⟩ | ⟨_, _, ha, rfl, rfl, rfl, rfl⟩ | ⟨_, _, rfl, rfl, hn, rfl, _, hg⟩
   ·exact ⟨n0, n0, by omega, e1, e2⟩
   ·exact ⟨n0, n0, by omega, e1, e2⟩
   ·exact ⟨Tm.sz a _ ha, Tm.sz b _ hb, by omega, e1, e2⟩
   ·have hc2 := hc.2
    rcases hc2 with ⟨h, _⟩ | ⟨h, _⟩ | ⟨_, _, h1, _, _, h2⟩
    ·exact absurd h (by decide)
    ·exact absurd h (by decide)
    ·exact ⟨n0, n0, tk_short (.inl rfl) h1, Tm.szs args _ h2, e2⟩
   ·exact ⟨n0, n0, by omega, e1, Gl.szs gs _ _ hg⟩
   ·exact ⟨n0, n0, by omega, e1, Gl.szs gs _ _ hg⟩
   ·exact ⟨Tm.sz a _ ha, n0, by omega, e1, e2⟩
   ·exact ⟨n0, n0, tk_short (.inr rfl) hn, e1, Gl.szs gs _ _ hg⟩
  obtain ⟨k1, k2, k3, k4, k5⟩ := key
  simp only [Gl.cs, D.sizes, D.size, D.sizes_append, Gl.nodes, ← Tm.ds_map]
  omega
theorem Gl.szs : ∀ (l : List Gl) (k : Int) (d : Nat), Gl.goods k d l → D.sizes (Gl.ds l) ≤ 42 * Gl.nodess l
 | [], _, _, _ => by simp [Gl.ds, D.sizes]
 | t :: l, k, d, ⟨h1, h2⟩ => by
  have a : D.sizes t.cs + 1 ≤ 42 * t.nodes := by
   split at h1
   ·exact Gl.sz t (d + 1) h1.2
   ·exact Gl.sz t d h1
  have b := Gl.szs l k d h2
  simp only [Gl.ds, D.sizes, D.size, Gl.nodess]
  omega
end
theorem names_sz : ∀ (l : List ByteArray), (∀ v ∈ l, IsTk ⟨2, v, 0⟩) → D.sizes (l.map .str) ≤ 42 * l.length
 | [], _ => by simp [D.sizes]
 | v :: l, h => by
  have a := tk_short (.inr rfl) (h v (.head _))
  have b := names_sz l fun x hx => h x (.tail _ hx)
  simp only [List.map_cons, D.sizes, D.size, List.length_cons]
  omega
theorem bools_sz : ∀ (l : List Bool), D.sizes (l.map .bool) = l.length
 | [] => rfl
 | v :: l => by simp only [List.map_cons, D.sizes, D.size, List.length_cons, bools_sz l]; omega
theorem ctors_sz : ∀ (l : List Ct), (∀ c ∈ l, c.Good) → D.sizes (l.map Ct.d) ≤ 42 * sumOf Ct.nodes l
 | [], _ => by simp [D.sizes]
 | c :: l, h => by
  have h0 := h c (.head _)
  have a := tk_short (.inl rfl) h0.name.tk
  have b := ctors_sz l fun x hx => h x (.tail _ hx)
  have d := Ty.szs c.args 1 h0.args
  simp only [List.map_cons, D.sizes, D.size, Ct.d, Ct.cs, sumOf, Ct.nodes, ← Ty.ds_map]
  omega
theorem It.sz {i : It} (h : i.Good) : D.sizes i.cs ≤ 42 * i.wt + 60 := by
 have hb : D.sizes (Gl.mk 0 .none .none ⟨#[]⟩ [] []).cs = 12 := by decide
 have e1 : D.sizes (([] : List ByteArray).map D.str) = 0 := rfl
 have e2 : D.sizes (([] : List Ct).map Ct.d) = 0 := rfl
 have e3 : D.sizes (([] : List Ty).map Ty.d) = 0 := rfl
 have e4 : D.sizes (([] : List Bool).map D.bool) = 0 := rfl
 have e5 : D.sizes (([] : List Tm).map Tm.d) = 0 := rfl
 cases h with
 | @type n vs cs hn h8 hv hne hc =>
  have a := tk_short (.inl rfl) hn.tk
  have b := names_sz vs hv
  have c := ctors_sz cs hc
  show D.sizes (_ ++ (Gl.mk 0 .none .none ⟨#[]⟩ [] []).cs) ≤ 42 * (_ + _ + _ + _ + _ + _) + 60
  rw [D.sizes_append, hb]
  simp only [D.sizes, D.size]
  show 1 + (n.size + 1 + (D.sizes (vs.map .str) + 1 + (D.sizes (cs.map Ct.d) + 1 + (D.sizes (([] : List Ty).map Ty.d) + 1 + (D.sizes (([] : List Bool).map D.bool) + 1 + (1 + (D.sizes (([] : List Tm).map Tm.d) + 1 + 0))))))) + 12 ≤ 42 * (3 + 0 + 0 + sumOf Ct.nodes cs + vs.length + 0) + 60
  omega
 | @pred n ts hn h8 ht =>
  have a := tk_short (.inl rfl) hn.tk
  have b := Ty.szs ts 1 ht
  rw [Ty.ds_map] at b
  show D.sizes (_ ++ (Gl.mk 0 .none .none ⟨#[]⟩ [] []).cs) ≤ 42 * (_ + _ + _ + _ + _ + _) + 60
  rw [D.sizes_append, hb]
  simp only [D.sizes, D.size]
  show 1 + (n.size + 1 + (D.sizes (([] : List ByteArray).map D.str) + 1 + (D.sizes (([] : List Ct).map Ct.d) + 1 + (D.sizes (ts.map Ty.d) + 1 + (D.sizes (([] : List Bool).map D.bool) + 1 + (1 + (D.sizes (([] : List Tm).map Tm.d) + 1 + 0))))))) + 12 ≤ 42 * (3 + 0 + Ty.nodess ts + 0 + 0 + 0) + 60
  omega
 | @mode n ws d hn h8 hd =>
  have a := tk_short (.inl rfl) hn.tk
  have b := bools_sz ws
  show D.sizes (_ ++ (Gl.mk 0 .none .none ⟨#[]⟩ [] []).cs) ≤ 42 * (_ + _ + _ + _ + _ + _) + 60
  rw [D.sizes_append, hb]
  simp only [D.sizes, D.size]
  show 1 + (n.size + 1 + (D.sizes (([] : List ByteArray).map D.str) + 1 + (D.sizes (([] : List Ct).map Ct.d) + 1 + (D.sizes (([] : List Ty).map Ty.d) + 1 + (D.sizes (ws.map D.bool) + 1 + (1 + (D.sizes (([] : List Tm).map Tm.d) + 1 + 0))))))) + 12 ≤ 42 * (3 + 0 + 0 + 0 + 0 + ws.length) + 60
  omega
 | @clause n ts g hn h8 ht hg =>
  have a := tk_short (.inl rfl) hn.tk
  have b := Tm.szs ts 1 ht
  have c := Gl.sz g 1 hg
  rw [Tm.ds_map] at b
  show D.sizes (_ ++ g.cs) ≤ 42 * (_ + _ + _ + _ + _ + _) + 60
  rw [D.sizes_append]
  simp only [D.sizes, D.size]
  show 1 + (n.size + 1 + (D.sizes (([] : List ByteArray).map D.str) + 1 + (D.sizes (([] : List Ct).map Ct.d) + 1 + (D.sizes (([] : List Ty).map Ty.d) + 1 + (D.sizes (([] : List Bool).map D.bool) + 1 + (1 + (D.sizes (ts.map Tm.d) + 1 + 0))))))) + D.sizes g.cs ≤ 42 * (g.nodes + Tm.nodess ts + 0 + 0 + 0 + 0) + 60
  omega
def InI (n : Int) : Prop := -9223372036854775808 ≤ n ∧ n ≤ 9223372036854775807
theorem wrap_in64 (x : Int) : InI (IntKind.i64.wrap x) := by unfold InI; rw [IntKind.wrap_i64]; omega
theorem rIntLoop_in {d : ByteArray} : ∀ (k : Nat) (n : Int) (i : Nat) (m : Int), InI n → rIntLoop d k n i = some m → InI m
 | 0, n, i, m, h, e => by simp only [rIntLoop] at e; cases e; exact h
 | k + 1, n, i, m, h, e => by
  simp only [rIntLoop] at e
  split at e
  ·cases e; exact h
  ·split at e
   ·cases e
   ·exact rIntLoop_in k _ _ m (wrap_in64 _) e
theorem inI_0 : InI 0 := ⟨by decide, by decide⟩
theorem rInt_in (s : ByteArray) : InI (rInt s).1 := by
 unfold rInt
 generalize rIntCut s = d
 by_cases h1 : d.size = 0 ∨ 19 < d.size ∨ (byteIs d 0 48 = true ∧ 1 < s.size)
 ·rw [if_pos h1]; exact inI_0
 ·rw [if_neg h1]
  cases hn : rIntLoop d d.size 0 0 with
  | none => exact inI_0
  | some n =>
   have hi := rIntLoop_in _ _ _ _ inI_0 hn
   simp only
   by_cases h2 : byteIs s 0 45 = true
   ·rw [if_pos h2]; exact hi
   ·rw [if_neg h2]
    by_cases h3 : n = -9223372036854775808
    ·rw [if_pos h3]; exact inI_0
    ·rw [if_neg h3]; exact wrap_in64 _
theorem rWord_in (s : ByteArray) (p : Nat) (c : UInt8) : InI (rWord s p c).1.int := by
 unfold rWord
 by_cases h1 : isLet c = true
 ·rw [if_pos h1]; exact inI_0
 rw [if_neg h1]
 by_cases h2 : isDig c = true ∨ (c.toNat : Int) = 45
 ·rw [if_pos h2]; exact rInt_in _
 rw [if_neg h2]
 by_cases h3 : (c.toNat : Int) = 58 ∧ p + 1 < s.size ∧ byteIs s (p + 1) 45 = true
 ·rw [if_pos h3]; exact inI_0
 rw [if_neg h3]
 by_cases h4 : kMarks.contains c.toNat = true
 ·rw [if_pos h4]; exact inI_0
 rw [if_neg h4]; exact inI_0
theorem tk_int {x : ByteArray} {i : Int} (h : IsTk ⟨3, x, i⟩) : InI i := by
 obtain ⟨c, w, h⟩ := h
 have hw := h.word ⟨⟨c :: w⟩⟩ 0 [] (by simp) (.inr (fun x hx => by cases hx))
 have := rWord_in ⟨⟨c :: w⟩⟩ 0 c
 rw [hw] at this
 exact this
theorem source_sz {s : ByteArray} {is : List It} (h : rsource (rlex s).1 (rlex s).2 = (is, 0)) : ∀ i ∈ is, D.sizes i.cs ≤ 4194304 := fun i hi => by
 have h0 := It.sz ((source_good h).1 i hi)
 obtain ⟨l, e1, r1⟩ := rsrc_ok.1 h
 have hl := rlex_len s
 rw [e1] at hl
 obtain ⟨a1, _, _⟩ := rsource_ok.1 r1
 rw [← a1] at hi
 have := ritems_wt hl _ [] ⟨0, 0⟩ (Nat.zero_le _) (fun i hi => by cases hi) i hi
 omega

section
variable {α : Type} {q : List Tok → RdS → α × RdS} {z x : α}
end
section
variable {s : ByteArray}
end
end Go.Aug

/- Plain: what is read without brackets around goals has its form's very tokens. -/
namespace Go.Aug
set_option maxRecDepth 100000
set_option linter.unusedSimpArgs false
set_option linter.unusedVariables false
theorem isTk_ext {t u : Tok} (ht : IsTk t) (hu : IsTk u) (e : t.text = u.text) : t = u := by
 obtain ⟨c, w, h⟩ := ht
 obtain ⟨c', w', h'⟩ := hu
 rw [h.text, h'.text] at e
 have e : c :: w = c' :: w' := by injection e with e; injection e
 obtain ⟨rfl, rfl⟩ := List.cons.inj e
 have a := h.word ⟨⟨c :: w⟩⟩ 0 [] (by simp) (.inr fun x hx => by cases hx)
 have b := h'.word ⟨⟨c :: w⟩⟩ 0 [] (by simp) (.inr fun x hx => by cases hx)
 exact (Prod.mk.inj (a.symm.trans b)).1
def Took (l : List Tok) (p q : Nat) (k : List Tok) : Prop := l.drop p = k ++ l.drop q
theorem Took.none (l : List Tok) (p : Nat) : Took l p p [] := rfl
theorem Took.app {l : List Tok} {p q r : Nat} {a b : List Tok} (h1 : Took l p q a) (h2 : Took l q r b) : Took l p r (a ++ b) := by
 unfold Took at *; rw [h1, h2, List.append_assoc]
theorem Took.cons {l : List Tok} {p q r : Nat} {t : Tok} {b : List Tok} (h1 : Took l p q [t]) (h2 : Took l q r b) : Took l p r (t :: b) := h1.app h2
theorem took_at {l : List Tok} {p : Nat} {t : Tok} (h : l[p]? = some t) : Took l p (p + 1) [t] := by
 obtain ⟨h1, h2⟩ := List.getElem?_eq_some_iff.1 h
 unfold Took
 rw [List.drop_eq_getElem_cons h1, h2]; rfl
def Ahead (l : List Tok) (p : Nat) : Prop := ∀ u, 0 < p → l[p - 1]? = some u → ¬ (u.kind = 1 ∧ isReserved u.text = false)
structure Bare (l : List Tok) : Prop where
 op : ∀ i t, l[i]? = some t → t.text = kOpen → ¬ Ahead l i
 tr : ∀ i t u, l[i]? = some t → t.text = kIf → l[i + 1]? = some u → u.text ≠ kTrue
section
variable {l : List Tok} {s : RdS}
theorem rgot_tok {m : ByteArray} (h : (rgot l m s).1 = true) : ∃ t, l[s.pos]? = some t ∧ t.text = m ∧ (rgot l m s).2 = ⟨s.pos + 1, s.err⟩ := by
 unfold rgot at h ⊢
 split at h
 ·rename_i hi
  rw [if_pos hi]
  simp only [ris, Bool.and_eq_true, Bool.not_eq_true'] at hi
  obtain ⟨h1, h2⟩ := hi
  cases hk : l[s.pos]? with
  | none => rw [hk] at h2; cases h2
  | some k =>
   rw [hk] at h2
   simp only [Bool.and_eq_true, decide_eq_true_eq] at h2
   exact ⟨k, rfl, h2.1, rfl⟩
 ·cases h
theorem got_took (hl : TkOk l) {t : Tok} (ht : IsTk t) (h : (rgot l t.text s).1 = true) : Took l s.pos (rgot l t.text s).2.pos [t] := by
 obtain ⟨k, h1, h2, h3⟩ := rgot_tok h
 rw [h3]
 have := isTk_ext (hl.at_ h1).tk ht h2
 subst this
 exact took_at h1
theorem got_ahead (hl : TkOk l) {t : Tok} (ht : IsTk t) (hn : ¬ (t.kind = 1 ∧ isReserved t.text = false)) (h : (rgot l t.text s).1 = true) : Ahead l (rgot l t.text s).2.pos := by
 obtain ⟨k, h1, h2, h3⟩ := rgot_tok h
 rw [h3]
 have := isTk_ext (hl.at_ h1).tk ht h2
 subst this
 intro u _ hu
 rw [show s.pos + 1 - 1 = s.pos by omega, h1] at hu
 cases hu
 exact hn
theorem rneed_got {m : ByteArray} (h : (rneed l m s).err = 0) : (rgot l m s).1 = true ∧ rneed l m s = (rgot l m s).2 := by
 have he := (rneed_ok h).1
 unfold rneed at h ⊢
 rw [if_pos he] at h ⊢
 split at h
 ·rename_i hg; rw [if_pos hg]; exact ⟨hg, rfl⟩
 ·exact absurd h (rfail_err (by decide) _)
theorem need_took (hl : TkOk l) {t : Tok} (ht : IsTk t) (h : (rneed l t.text s).err = 0) : Took l s.pos (rneed l t.text s).pos [t] := by
 obtain ⟨h1, h2⟩ := rneed_got h
 rw [h2]; exact got_took hl ht h1
theorem need_ahead (hl : TkOk l) {t : Tok} (ht : IsTk t) (hn : ¬ (t.kind = 1 ∧ isReserved t.text = false)) (h : (rneed l t.text s).err = 0) : Ahead l (rneed l t.text s).pos := by
 obtain ⟨h1, h2⟩ := rneed_got h
 rw [h2]; exact got_ahead hl ht hn h1
theorem name_took (hl : TkOk l) (h : (rword l 1 s).2.err = 0) : Took l s.pos (rword l 1 s).2.pos [kw (rword l 1 s).1] := by
 obtain ⟨t, ht, tk, _, te⟩ := rword_tok h
 obtain ⟨_, hp, _⟩ := rword_ok h
 rw [hp, te]
 have := isTk_ext (hl.at_ ht).tk ((hl.at_ ht).name tk) rfl
 have e : kw t.text = t := this.symm
 rw [e]; exact took_at ht
theorem var_took (hl : TkOk l) (h : (rword l 2 s).2.err = 0) : Took l s.pos (rword l 2 s).2.pos [⟨2, (rword l 2 s).1, 0⟩] := by
 obtain ⟨t, ht, tk, _, te⟩ := rword_tok h
 obtain ⟨_, hp, _⟩ := rword_ok h
 rw [hp, te]
 have := isTk_ext (hl.at_ ht).tk ((hl.at_ ht).var tk) rfl
 rw [← this]; exact took_at ht
theorem open_tk : IsTk tokOpen := ⟨_, _, tokOpen_is⟩
theorem close_tk : IsTk tokClose := ⟨_, _, tokClose_is⟩
theorem comma_tk : IsTk tokComma := ⟨_, _, comma_is⟩
theorem semi_tk : IsTk tokSemi := ⟨_, _, semi_is⟩
theorem eq_tk : IsTk tokEq := ⟨_, _, eq_is⟩
theorem bar_tk : IsTk tokBar := ⟨_, _, bar_is⟩
theorem dot_tk : IsTk tokDot := ⟨_, _, dot_is⟩
theorem if_tk : IsTk tokIf := ⟨_, _, if_is⟩
theorem fin_false {n : Nat} (h : (rmoreFin l n s).1 = false) : (rmoreFin l n s).2.err ≠ 0 := by
 simp only [rmoreFin, decide_eq_false_iff_not] at h ⊢
 exact h
theorem rmore_took (hl : TkOk l) (he : s.err = 0) {n : Nat} : ((rmore l n s).1 = true → Took l s.pos (rmore l n s).2.pos [if n = 0 then tokOpen else tokComma]) ∧ ((rmore l n s).1 = false → (rmore l n s).2.err = 0 → Took l s.pos (rmore l n s).2.pos (if n = 0 then [] else [tokClose])) := by
 unfold rmore
 by_cases hn : n = 0
 ·simp only [if_pos hn]
  by_cases hg : (rgot l ⟨#[40]⟩ s).1 = true
  ·simp only [if_pos hg]
   refine ⟨fun _ => ?_, fun h h0 => absurd h0 (fin_false h)⟩
   rw [rmoreFin_pos]; exact got_took (t := tokOpen) hl open_tk hg
  ·simp only [if_neg hg]
   refine ⟨fun h => (Bool.false_ne_true h).elim, fun _ _ => ?_⟩
   rw [rgot_false (by simpa using hg)]; exact .none l _
 ·simp only [if_neg hn]
  by_cases hg : (rgot l ⟨#[41]⟩ s).1 = true
  ·have hy : (rgot l ⟨#[41]⟩ s).1 = true ∨ (rgot l ⟨#[41]⟩ s).2.err ≠ 0 := .inl hg
   rw [if_pos hy]
   exact ⟨fun h => absurd h Bool.false_ne_true, fun _ _ => got_took (t := tokClose) hl close_tk hg⟩
  ·have hgf : (rgot l ⟨#[41]⟩ s).1 = false := by simpa using hg
   have hno : ¬ ((rgot l ⟨#[41]⟩ s).1 = true ∨ (rgot l ⟨#[41]⟩ s).2.err ≠ 0) := by
    rintro (h | h)
    ·exact hg h
    ·rw [rgot_err] at h; exact h he
   rw [if_neg hno, rgot_false hgf]
   refine ⟨fun h => ?_, fun h h0 => absurd h0 (fin_false h)⟩
   have h1 : (rneed l ⟨#[44]⟩ s).err = 0 := by
    simp only [rmoreFin, decide_eq_true_eq] at h
    split at h
    ·exact absurd h (rfail_err (by decide) _)
    ·exact h
   rw [rmoreFin_pos]; exact need_took (t := tokComma) hl comma_tk h1
theorem rargs_took {α : Type} {tk : α → List Tok} {q : RdS → α × RdS} (hl : TkOk l) (hq : ∀ s, s.err = 0 → (q s).2.err = 0 → Took l s.pos (q s).2.pos (tk (q s).1)) (hend : ∀ s, rend l s = true → (q s).2.err ≠ 0) : ∀ (k : Nat) (xs : List α) (s : RdS), s.err = 0 → (rargs q l k xs s).2.err = 0 → xs.length ≤ 8 → 9 ≤ xs.length + k → ∃ ys, (rargs q l k xs s).1 = xs ++ ys ∧ Took l s.pos (rargs q l k xs s).2.pos (if xs = [] then rowKs (ys.map tk) else tailK tokComma (ys.map tk) ++ [tokClose])
 | 0, xs, s, _, _, h1, h2 => by omega
 | k + 1, xs, s, he, h0, h1, h2 => by
  simp only [rargs, if_pos he] at h0 ⊢
  obtain ⟨m1, m2⟩ := rmore_took (s := s) hl he (n := xs.length)
  have hx0 : xs.length = 0 ↔ xs = [] := List.length_eq_zero_iff
  cases hm : (rmore l xs.length s).1 with
  | false =>
   simp only [hm, Bool.false_eq_true, if_false] at h0 ⊢
   refine ⟨[], by simp, ?_⟩
   have := m2 hm h0
   by_cases hx : xs = []
   ·rw [if_pos hx]; rw [if_pos (hx0.2 hx)] at this; exact this
   ·rw [if_neg hx]; rw [if_neg (fun h => hx (hx0.1 h))] at this; exact this
  | true =>
   simp only [hm, if_true] at h0 ⊢
   obtain ⟨r0, _, r8⟩ := rmore_true hm
   have hm1 := m1 hm
   by_cases hqe : (q (rmore l xs.length s).2).2.err = 0
   ·have hn8 : xs.length ≠ 8 := fun h => hend _ (r8 h) hqe
    have hq1 := hq _ r0 hqe
    obtain ⟨ys, e1, e2⟩ := rargs_took hl hq hend k _ _ hqe h0 (by simp only [List.length_append, List.length_cons, List.length_nil]; omega) (by simp only [List.length_append, List.length_cons, List.length_nil]; omega)
    refine ⟨(q (rmore l xs.length s).2).1 :: ys, by rw [e1]; simp, ?_⟩
    rw [if_neg (by simp)] at e2
    have := hm1.app (hq1.app e2)
    by_cases hx : xs = []
    ·rw [if_pos hx]; rw [if_pos (hx0.2 hx)] at this
     simpa [rowKs, joinK] using this
    ·rw [if_neg hx]; rw [if_neg (fun h => hx (hx0.1 h))] at this
     simpa [tailK] using this
   ·rw [rargs_stop hqe] at h0
    exact absurd h0 hqe
theorem row_took {α : Type} {tk : α → List Tok} {q : RdS → α × RdS} (hl : TkOk l) (hq : ∀ s, s.err = 0 → (q s).2.err = 0 → Took l s.pos (q s).2.pos (tk (q s).1)) (hend : ∀ s, rend l s = true → (q s).2.err ≠ 0) (he : s.err = 0) (h0 : (rargs q l 10 [] s).2.err = 0) : Took l s.pos (rargs q l 10 [] s).2.pos (rowKs ((rargs q l 10 [] s).1.map tk)) := by
 obtain ⟨ys, e1, e2⟩ := rargs_took hl hq hend 10 [] s he h0 (by simp) (by simp)
 rw [e1]; exact e2
theorem rterm_took (hl : TkOk l) : ∀ (f d : Nat), d ≤ 65 → 67 ≤ f + d → ∀ s : RdS, s.err = 0 → (rterm f l d s).2.err = 0 → Took l s.pos (rterm f l d s).2.pos (rterm f l d s).1.toks
 | 0, d, h1, h2 => by omega
 | f + 1, d, h1, h2 => by
  intro s he h0
  cases hr : rend l s with
  | true => exact absurd h0 (rterm_end (by omega) hr)
  | false =>
   obtain ⟨_, hlt, k, hk⟩ := rend_tok hr
   have hd : d ≤ 64 := by
    apply Classical.byContradiction; intro hn
    have e := nest_big he (show 64 < d by omega) hlt
    rw [rterm_nerr (err_3 e), e] at h0; cases h0
   have e0 := rterm_is (l := l) (f := f) (n := d) he (by rw [rnest_no hd]; exact he)
   rw [rpeek_some hk] at e0
   rw [e0] at h0 ⊢
   have hF := hl.at_ hk
   by_cases c2 : k.kind = 2
   ·rw [if_pos c2, Tm.toks, if_neg (by decide), if_pos rfl, Tm.tokss, rowKs]
    have := isTk_ext hF.tk (hF.var c2) rfl
    rw [← this]; exact took_at hk
   ·rw [if_neg c2] at h0 ⊢
    by_cases c3 : k.kind = 3
    ·rw [if_pos c3, Tm.toks, if_pos rfl, Tm.tokss, rowKs]
     have := isTk_ext hF.tk (hF.int3 c3) (hF.num c3)
     rw [← this]; exact took_at hk
    ·rw [if_neg c3] at h0 ⊢
     by_cases hw : (rword l 1 s).2.err = 0
     ·have a := name_took hl hw
      have b := row_took (tk := Tm.toks) hl (rterm_took hl f (d + 1) (by omega) (by omega)) (fun s h => rterm_end (by omega) h) hw h0
      rw [Tm.toks, if_neg (by decide), if_neg (by decide), Tm.tokss_map]
      exact a.cons b
     ·rw [rargs_stop hw] at h0
      exact absurd h0 hw
theorem int_tk : IsTk ⟨1, kInt, 0⟩ := ⟨_, _, int_is⟩
theorem rtype_took (hl : TkOk l) : ∀ (f d : Nat), d ≤ 65 → 67 ≤ f + d → ∀ s : RdS, s.err = 0 → (rtype f l d s).2.err = 0 → Took l s.pos (rtype f l d s).2.pos (rtype f l d s).1.toks
 | 0, d, h1, h2 => by omega
 | f + 1, d, h1, h2 => by
  intro s he h0
  cases hr : rend l s with
  | true => exact absurd h0 (rtype_end (by omega) hr)
  | false =>
   obtain ⟨_, hlt, k, hk⟩ := rend_tok hr
   have hd : d ≤ 64 := by
    apply Classical.byContradiction; intro hn
    have e := nest_big he (show 64 < d by omega) hlt
    rw [rtype_nerr (err_3 e), e] at h0; cases h0
   have e0 := rtype_is (l := l) (f := f) (n := d) he (by rw [rnest_no hd]; exact he)
   rw [rpeek_some hk] at e0
   rw [e0] at h0 ⊢
   have hF := hl.at_ hk
   by_cases c2 : k.kind = 2
   ·rw [if_pos c2, Ty.toks, if_pos rfl, Ty.tokss, rowKs]
    have := isTk_ext hF.tk (hF.var c2) rfl
    rw [← this]; exact took_at hk
   ·rw [if_neg c2] at h0 ⊢
    by_cases c3 : (rgot l kInt s).1 = true
    ·rw [if_pos c3, Ty.toks, if_neg (by decide), Ty.tokss, rowKs]
     exact got_took (t := ⟨1, kInt, 0⟩) hl int_tk c3
    ·rw [if_neg c3] at h0 ⊢
     by_cases hw : (rword l 1 s).2.err = 0
     ·have a := name_took hl hw
      have b := row_took (tk := Ty.toks) hl (rtype_took hl f (d + 1) (by omega) (by omega)) (fun s h => rtype_end (by omega) h) hw h0
      rw [Ty.toks, if_neg (by decide), Ty.tokss_map]
      exact a.cons b
     ·rw [rargs_stop hw] at h0
      exact absurd h0 hw
theorem rjoin_took {P : Gl → Prop} {q : RdS → Gl × RdS} {t : Tok} (hl : TkOk l) (ht : IsTk t) (hn : ¬ (t.kind = 1 ∧ isReserved t.text = false)) (hq : ∀ s, s.err = 0 → Ahead l s.pos → (q s).2.err = 0 → Took l s.pos (q s).2.pos (q s).1.toks ∧ P (q s).1) : ∀ (k : Nat) (gs : List Gl) (s : RdS), s.err = 0 → (rjoin q t.text l k gs s).2.err = 0 → ∃ ys, (rjoin q t.text l k gs s).1 = gs ++ ys ∧ (∀ y ∈ ys, P y) ∧ Took l s.pos (rjoin q t.text l k gs s).2.pos (tailK t (ys.map Gl.toks))
 | 0, gs, s, _, _ => ⟨[], by simp [rjoin], by simp, .none l _⟩
 | k + 1, gs, s, he, h0 => by
  simp only [rjoin] at h0 ⊢
  split at h0
  ·rename_i hg
   rw [if_pos hg]
   by_cases hqe : (q (rgot l t.text s).2).2.err = 0
   ·obtain ⟨a1, a2⟩ := hq _ (by rw [rgot_err]; exact he) (got_ahead hl ht hn hg) hqe
    obtain ⟨ys, e1, e2, e3⟩ := rjoin_took hl ht hn hq k _ _ hqe h0
    refine ⟨(q (rgot l t.text s).2).1 :: ys, by rw [e1]; simp, fun y hy => ?_, ?_⟩
    ·rcases List.mem_cons.1 hy with rfl | hy
     ·exact a2
     ·exact e2 y hy
    ·exact (got_took hl ht hg).cons (a1.app e3)
   ·rw [rjoin_err hqe] at h0
    exact absurd h0 hqe
  ·rename_i hg
   rw [if_neg hg]
   exact ⟨[], by simp, by simp, .none l _⟩
theorem rjoined_took {P : Gl → Prop} {q : RdS → Gl × RdS} {t : Tok} {kind : Int} (hl : TkOk l) (ht : IsTk t) (hn : ¬ (t.kind = 1 ∧ isReserved t.text = false)) (hq : ∀ s, s.err = 0 → Ahead l s.pos → (q s).2.err = 0 → Took l s.pos (q s).2.pos (q s).1.toks ∧ P (q s).1) (he : s.err = 0) (ha : Ahead l s.pos) (h0 : (rjoined kind t.text q l s).2.err = 0) : ∃ gs, gs ≠ [] ∧ (∀ g ∈ gs, P g) ∧ (rjoined kind t.text q l s).1 = joinOf kind gs ∧ Took l s.pos (rjoined kind t.text q l s).2.pos (joinK t (gs.map Gl.toks)) := by
 simp only [rjoined] at h0 ⊢
 by_cases hqe : (q s).2.err = 0
 ·obtain ⟨a1, a2⟩ := hq s he ha hqe
  obtain ⟨ys, e1, e2, e3⟩ := rjoin_took hl ht hn hq _ [(q s).1] _ hqe h0
  refine ⟨(q s).1 :: ys, by simp, fun y hy => ?_, by rw [e1]; rfl, ?_⟩
  ·rcases List.mem_cons.1 hy with rfl | hy
   ·exact a2
   ·exact e2 y hy
  ·exact a1.app e3
 ·rw [rjoin_err hqe] at h0
  exact absurd h0 hqe
theorem ks_plain {k : Int} : ∀ {gs : List Gl}, (∀ g ∈ gs, loose k g.kind = false) → Gl.ks k gs = gs.map Gl.toks
 | [], _ => rfl
 | g :: gs, h => by
  rw [Gl.ks, h g (.head _), ks_plain fun x hx => h x (.tail _ hx)]; rfl
theorem rgoalW_took {q : RdS → Gl × RdS} (hl : TkOk l) (hq : ∀ s, s.err = 0 → Ahead l s.pos → (q s).2.err = 0 → Took l s.pos (q s).2.pos (q s).1.toks ∧ loose 7 (q s).1.kind = false) (hs : Steps l q) (he : s.err = 0) (ha : Ahead l s.pos) (h0 : (rgoalW q l s).2.err = 0) : Took l s.pos (rgoalW q l s).2.pos (rgoalW q l s).1.toks := by
 rw [rgoal_join hs he] at h0 ⊢
 obtain ⟨os, hne, ho, e, e2⟩ := rjoined_took (P := fun g => loose 6 g.kind = false) (t := tokSemi) hl semi_tk (by decide) (fun s he ha h0 => by
  obtain ⟨gs, hne, hg, e, e2⟩ := rjoined_took (P := fun g => loose 7 g.kind = false) (t := tokComma) (kind := 5) hl comma_tk (by decide) hq he ha h0
  have hlo : ∀ k : Int, loose 7 k = false → loose 6 k = false ∧ loose 5 k = false := by
   intro k h
   simp [loose] at h ⊢
   omega
  change Took l s.pos (rjoined 5 kComma q l s).2.pos _ at e2
  change (rjoined 5 kComma q l s).1 = _ at e
  rw [e]
  rcases joinOf_cases 5 hne with ⟨g, rfl, e3⟩ | ⟨h2, e3⟩
  ·rw [e3]; exact ⟨by simpa [joinK, tailK] using e2, (hlo _ (hg g (.head _))).1⟩
  ·rw [e3]
   refine ⟨?_, rfl⟩
   have : (Gl.mk 5 .none .none ⟨#[]⟩ [] gs).toks = joinK tokComma (Gl.ks 5 gs) := by rw [Gl.toks]; simp
   rw [this, ks_plain fun g hx => (hlo _ (hg g hx)).2]; exact e2) he ha h0
 change Took l s.pos (rjoined 6 kSemi (rjoined 5 kComma q l) l s).2.pos _ at e2
 change (rjoined 6 kSemi (rjoined 5 kComma q l) l s).1 = _ at e
 rw [e]
 rcases joinOf_cases 6 hne with ⟨g, rfl, e3⟩ | ⟨h2, e3⟩
 ·rw [e3]; simpa [joinK, tailK] using e2
 ·rw [e3]
  have : (Gl.mk 6 .none .none ⟨#[]⟩ [] os).toks = joinK tokSemi (Gl.ks 6 os) := by rw [Gl.toks]; simp
  rw [this, ks_plain ho]; exact e2
theorem loose_79 {k : Int} (h : loose 7 k = false) : loose 9 k = false := by simp [loose] at h ⊢; omega
theorem kw_tk {c : UInt8} {w : List UInt8} (hc : isSmall c = true) (hw : (w.all isWd) = true) (hn : w.length + 1 ≤ 32) : IsTk (kw ⟨⟨c :: w⟩⟩) := ⟨_, _, kw_is hc hw hn⟩
theorem rprim_took (hl : TkOk l) (hB : Bare l) : ∀ (f d : Nat), d ≤ 65 → 67 ≤ f + d → ∀ s : RdS, s.err = 0 → Ahead l s.pos → (rprim f l d s).2.err = 0 → Took l s.pos (rprim f l d s).2.pos (rprim f l d s).1.toks ∧ loose 7 (rprim f l d s).1.kind = false
 | 0, d, h1, h2 => by omega
 | f + 1, d, h1, h2 => by
  intro s he hA h0
  cases hr : rend l s with
  | true => exact absurd h0 (rprim_end (by omega) hr)
  | false =>
   obtain ⟨_, hlt, k, hk⟩ := rend_tok hr
   have hd : d ≤ 64 := by
    apply Classical.byContradiction; intro hn
    have e := nest_big he (show 64 < d by omega) hlt
    rw [rprim_nerr (err_3 e), e] at h0; cases h0
   have e0 := rnest_no (l := l) (s := s) hd
   have ge := fun t => show (rgot l t s).2.err = 0 by rw [rgot_err]; exact he
   have ht := rterm_took hl f (d + 1) (by omega) (by omega)
   have hgd := rterm_good hl f (d + 1) (by omega) (by omega)
   have hq := rprim_took hl hB f (d + 1) (by omega) (by omega)
   simp only [rprim, e0] at h0 ⊢
   by_cases c1 : (rgot l kTrue s).1 = true
   ·rw [if_pos c1]; exact ⟨by rw [Gl.toks]; exact got_took (t := kw kTrue) hl (kw_tk (c := 116) (w := [114, 117, 101]) (by decide) (by decide) (by decide)) c1, rfl⟩
   rw [if_neg c1] at h0 ⊢
   by_cases c2 : (rgot l kFail s).1 = true
   ·rw [if_pos c2]; exact ⟨by rw [Gl.toks]; exact got_took (t := kw kFail) hl (kw_tk (c := 102) (w := [97, 105, 108]) (by decide) (by decide) (by decide)) c2, rfl⟩
   rw [if_neg c2] at h0 ⊢
   by_cases c3 : (rgot l kNot s).1 = true
   ·rw [if_pos c3] at h0 ⊢
    have hkt : IsTk (kw kNot) := kw_tk (c := 110) (w := [111, 116]) (by decide) (by decide) (by decide)
    obtain ⟨a1, a2⟩ := hq _ (ge _) (got_ahead (t := kw kNot) hl hkt (by decide) c3) h0
    have a0 := got_took (t := kw kNot) hl hkt c3
    refine ⟨?_, rfl⟩
    have : ∀ g : Gl, loose 7 g.kind = false → (Gl.mk 7 .none .none ⟨#[]⟩ [] [g]).toks = kw kNot :: g.toks := fun g hg => by rw [Gl.toks, ks_plain (gs := [g]) (k := 7) (by simpa using hg)]; simp
    have r := a0.cons a1
    rw [← this _ a2] at r
    exact r
   rw [if_neg c3] at h0 ⊢
   by_cases c4 : (rgot l kThrow s).1 = true
   ·rw [if_pos c4] at h0 ⊢
    refine ⟨?_, rfl⟩
    have : ∀ a : Tm, (Gl.mk 8 a .none ⟨#[]⟩ [] []).toks = kw kThrow :: a.toks := fun a => by rw [Gl.toks]; simp
    rw [this]
    exact (got_took (t := kw kThrow) hl (kw_tk (c := 116) (w := [104, 114, 111, 119]) (by decide) (by decide) (by decide)) c4).cons (ht _ (ge _) h0)
   rw [if_neg c4] at h0 ⊢
   by_cases c5 : (rgot l kTry s).1 = true
   ·rw [if_pos c5] at h0 ⊢
    have hst := rprim_sticky l f (d + 1)
    obtain ⟨t1, t2⟩ := rtry_is (l := l) (s := (rgot l kTry s).2) hst
    rw [t2] at h0
    rw [t1, t2]
    have hk1 : IsTk (kw kTry) := kw_tk (c := 116) (w := [114, 121]) (by decide) (by decide) (by decide)
    have hk2 : IsTk (kw kCatch) := kw_tk (c := 99) (w := [97, 116, 99, 104]) (by decide) (by decide) (by decide)
    have hk3 : IsTk (kw kThen) := kw_tk (c := 116) (w := [104, 101, 110]) (by decide) (by decide) (by decide)
    have a0 := got_took (t := kw kTry) hl hk1 c5
    have b0 := got_ahead (t := kw kTry) hl hk1 (by decide) c5
    change Took l s.pos (rgot l kTry s).2.pos _ at a0
    change Ahead l (rgot l kTry s).2.pos at b0
    generalize (rgot l kTry s).2 = s1 at h0 ge a0 b0 ⊢
    have n4 : (rneed l kThen (rword l 2 (rneed l kCatch (rprim f l (d + 1) s1).2)).2).err = 0 := by
     apply Classical.byContradiction; intro hn
     rw [hst _ hn] at h0; exact hn h0
    have n3 := (rneed_ok n4).1
    have n2 := (rword_ok n3).1
    have n1 := (rneed_ok n2).1
    have ns : s1.err = 0 := by
     apply Classical.byContradiction; intro hn
     rw [hst _ hn] at n1; exact hn n1
    obtain ⟨a1, a2⟩ := hq _ ns b0 n1
    have a3 := need_took (t := kw kCatch) hl hk2 n2
    have a4 := var_took hl n3
    have a5 := need_took (t := kw kThen) hl hk3 n4
    obtain ⟨a6, a7⟩ := hq _ n4 (need_ahead (t := kw kThen) hl hk3 (by decide) n4) h0
    refine ⟨?_, rfl⟩
    have : ∀ (n : ByteArray) (g1 g2 : Gl), loose 7 g1.kind = false → loose 7 g2.kind = false → (Gl.mk 9 .none .none n [] [g1, g2]).toks = kw kTry :: (g1.toks ++ kw kCatch :: ⟨2, n, 0⟩ :: kw kThen :: g2.toks) := fun n g1 g2 h1 h2 => by
     rw [Gl.toks, ks_plain (gs := [g1, g2]) (k := 9) (fun g hg => by
      rcases List.mem_cons.1 hg with rfl | hg
      ·exact loose_79 h1
      ·rw [List.mem_singleton.1 hg]; exact loose_79 h2)]
     simp
    have r := a0.cons (a1.app (a3.cons (a4.cons (a5.cons a6))))
    rw [← this _ _ _ a2 a7] at r
    exact r
   rw [if_neg c5] at h0 ⊢
   by_cases c6 : (rgot l kOpen s).1 = true
   ·obtain ⟨t, h1, h2, _⟩ := rgot_tok c6
    exact absurd hA (hB.op _ _ h1 h2)
   rw [if_neg c6] at h0 ⊢
   have ha : (rterm f l (d + 1) s).2.err = 0 := by
    apply Classical.byContradiction; intro hn
    simp only [rcall, rgot_errs hn, Bool.false_eq_true, if_false] at h0
    split at h0
    ·exact hn h0
    ·rw [rfail, if_neg hn] at h0; exact hn h0
   have hta := ht s he ha
   have hga := hgd s he ha
   simp only [rcall] at h0 ⊢
   by_cases hg : (rgot l kEq (rterm f l (d + 1) s).2).1 = true
   ·rw [if_pos hg] at h0 ⊢
    refine ⟨?_, rfl⟩
    have : ∀ a b : Tm, (Gl.mk 3 a b ⟨#[]⟩ [] []).toks = a.toks ++ tokEq :: b.toks := fun a b => by rw [Gl.toks]; simp
    rw [this]
    exact hta.app ((got_took (t := tokEq) hl eq_tk hg).cons (ht _ (by rw [rgot_err]; exact ha) h0))
   ·rw [if_neg hg] at h0 ⊢
    by_cases hk3 : (rterm f l (d + 1) s).1.kind = 3
    ·refine ⟨?_, rfl⟩
     rw [if_pos hk3]
     generalize (rterm f l (d + 1) s).1 = x at hta hk3 ⊢
     obtain ⟨xk, xn, xi, xs⟩ := x
     simp only [Tm.kind] at hk3
     subst hk3
     have : (Gl.mk 4 .none .none xn xs []).toks = (Tm.mk 3 xn xi xs).toks := by rw [Gl.toks, Tm.toks]; simp [kw]
     simp only [Tm.name, Tm.args]
     rw [this]; exact hta
    ·rw [if_neg hk3] at h0
     exact absurd h0 (rfail_err (by decide) _)
theorem rgoal_took (hl : TkOk l) (hB : Bare l) {f d : Nat} (h1 : d ≤ 65) (h2 : 67 ≤ f + d) (he : s.err = 0) (hA : Ahead l s.pos) (h0 : (rgoal f l d s).2.err = 0) : Took l s.pos (rgoal f l d s).2.pos (rgoal f l d s).1.toks :=
 rgoalW_took hl (rprim_took hl hB f d h1 h2) (rprim_steps l f d) he hA h0
theorem rctor_took (hl : TkOk l) (h0 : (rctor l s).2.err = 0) : Took l s.pos (rctor l s).2.pos (rctor l s).1.toks := by
 simp only [rctor] at h0 ⊢
 by_cases hw : (rword l 1 s).2.err = 0
 ·rw [Ct.toks, Ty.tokss_map]
  exact (name_took hl hw).cons (row_took (tk := Ty.toks) hl (rtype_took hl 66 1 (by decide) (by decide)) (fun s h => rtype_end (by decide) h) hw h0)
 ·rw [rargs_stop hw] at h0
  exact absurd h0 hw
theorem rbars_took (hl : TkOk l) : ∀ (k : Nat) (cs : List Ct) (s : RdS), s.err = 0 → (rbars l k cs s).2.err = 0 → ∃ ys, (rbars l k cs s).1 = cs ++ ys ∧ Took l s.pos (rbars l k cs s).2.pos (tailK tokBar (ys.map Ct.toks))
 | 0, cs, s, _, _ => ⟨[], by simp [rbars], .none l _⟩
 | k + 1, cs, s, he, h0 => by
  simp only [rbars] at h0 ⊢
  split at h0
  ·rename_i hg
   rw [if_pos hg]
   by_cases hqe : (rctor l (rgot l kBar s).2).2.err = 0
   ·obtain ⟨ys, e1, e2⟩ := rbars_took hl k _ _ hqe h0
    refine ⟨(rctor l (rgot l kBar s).2).1 :: ys, by rw [e1]; simp, ?_⟩
    exact (got_took (t := tokBar) hl bar_tk hg).cons ((rctor_took hl hqe).app e2)
   ·rw [rbars_e hqe] at h0
    exact absurd h0 hqe
  ·rename_i hg
   rw [if_neg hg]; exact ⟨[], by simp, .none l _⟩
theorem rway_took (hl : TkOk l) (s : RdS) (he : s.err = 0) (h0 : (rwayIn l s).2.err = 0) : Took l s.pos (rwayIn l s).2.pos (wayK (rwayIn l s).1) := by
 unfold rwayIn at h0 ⊢
 by_cases c : (rgot l kIn s).1 = true
 ·rw [if_pos c]; exact got_took (t := kw kIn) hl (kw_tk (c := 105) (w := [110]) (by decide) (by decide) (by decide)) c
 ·rw [if_neg c] at h0 ⊢; exact need_took (t := kw kOut) hl (kw_tk (c := 111) (w := [117, 116]) (by decide) (by decide) (by decide)) h0
theorem rdet_took (hl : TkOk l) (h0 : (rdet l s).2.err = 0) : Took l s.pos (rdet l s).2.pos [kw (detW (rdet l s).1)] := by
 unfold rdet at h0 ⊢
 by_cases c1 : (rgot l kDet s).1 = true
 ·rw [if_pos c1]; exact got_took (t := kw kDet) hl (kw_tk (c := 100) (w := [101, 116]) (by decide) (by decide) (by decide)) c1
 rw [if_neg c1] at h0 ⊢
 by_cases c2 : (rgot l kSemi2 s).1 = true
 ·rw [if_pos c2]; exact got_took (t := kw kSemi2) hl (kw_tk (c := 115) (w := [101, 109, 105, 100, 101, 116]) (by decide) (by decide) (by decide)) c2
 rw [if_neg c2] at h0 ⊢
 by_cases c3 : (rgot l kMulti s).1 = true
 ·rw [if_pos c3]; exact got_took (t := kw kMulti) hl (kw_tk (c := 109) (w := [117, 108, 116, 105]) (by decide) (by decide) (by decide)) c3
 rw [if_neg c3] at h0 ⊢
 by_cases c4 : (rgot l kNon s).1 = true
 ·rw [if_pos c4]; exact got_took (t := kw kNon) hl (kw_tk (c := 110) (w := [111, 110, 100, 101, 116]) (by decide) (by decide) (by decide)) c4
 rw [if_neg c4] at h0
 exact absurd h0 (rfail_err (by decide) _)
theorem ritem_took (hl : TkOk l) (hB : Bare l) (he : s.err = 0) (h0 : (ritem l s).2.err = 0) : Took l s.pos (ritem l s).2.pos (ritem l s).1.toks := by
 have ge := fun t => show (rgot l t s).2.err = 0 by rw [rgot_err]; exact he
 simp only [ritem] at h0 ⊢
 by_cases c1 : (rgot l kType s).1 = true
 ·rw [if_pos c1] at h0 ⊢
  have a0 := got_took (t := kw kType) hl (kw_tk (c := 116) (w := [121, 112, 101]) (by decide) (by decide) (by decide)) c1
  change Took l s.pos (rgot l kType s).2.pos _ at a0
  generalize (rgot l kType s).2 = s1 at h0 a0 ⊢
  simp only [ritType] at h0 ⊢
  have n3 : (rctor l (rneed l kEq (rargs (rword l 2) l 10 [] (rword l 1 s1).2).2)).2.err = 0 := by
   apply Classical.byContradiction; intro hn
   rw [rbars_e hn] at h0; exact hn h0
  have n2 : (rneed l kEq (rargs (rword l 2) l 10 [] (rword l 1 s1).2).2).err = 0 := by
   apply Classical.byContradiction; intro hn
   simp only [rctor, rword_err hn, rargs_stop hn] at n3; exact hn n3
  have n1 := (rneed_ok n2).1
  have n0 : (rword l 1 s1).2.err = 0 := by
   apply Classical.byContradiction; intro hn
   rw [rargs_stop hn] at n1; exact hn n1
  have a1 := name_took hl n0
  have a2 := row_took (tk := fun v => [(⟨2, v, 0⟩ : Tok)]) hl (fun s _ h => var_took hl h) (fun s h => rword_end h) n0 n1
  have a3 := need_took (t := tokEq) hl eq_tk n2
  have a4 := rctor_took hl n3
  obtain ⟨ys, e1, e2⟩ := rbars_took hl l.length [_] _ n3 h0
  rw [e1]
  exact a0.cons (a1.cons (a2.app (a3.cons (a4.app e2))))
 rw [if_neg c1] at h0 ⊢
 by_cases c2 : (rgot l kPred s).1 = true
 ·rw [if_pos c2] at h0 ⊢
  have a0 := got_took (t := kw kPred) hl (kw_tk (c := 112) (w := [114, 101, 100]) (by decide) (by decide) (by decide)) c2
  change Took l s.pos (rgot l kPred s).2.pos _ at a0
  generalize (rgot l kPred s).2 = s1 at h0 a0 ⊢
  simp only [ritPred] at h0 ⊢
  have n0 : (rword l 1 s1).2.err = 0 := by
   apply Classical.byContradiction; intro hn
   rw [rargs_stop hn] at h0; exact hn h0
  have a2 := row_took (tk := Ty.toks) hl (rtype_took hl 66 1 (by decide) (by decide)) (fun s h => rtype_end (by decide) h) n0 h0
  rw [← Ty.tokss_map] at a2
  exact a0.cons ((name_took hl n0).cons a2)
 rw [if_neg c2] at h0 ⊢
 by_cases c3 : (rgot l kMode s).1 = true
 ·rw [if_pos c3] at h0 ⊢
  have a0 := got_took (t := kw kMode) hl (kw_tk (c := 109) (w := [111, 100, 101]) (by decide) (by decide) (by decide)) c3
  change Took l s.pos (rgot l kMode s).2.pos _ at a0
  generalize (rgot l kMode s).2 = s1 at h0 a0 ⊢
  simp only [ritMode] at h0 ⊢
  have n2 : (rneed l kIs (rargs (rwayIn l) l 10 [] (rword l 1 s1).2).2).err = 0 := by
   apply Classical.byContradiction; intro hn
   exact rdet_err hn h0
  have n1 := (rneed_ok n2).1
  have n0 : (rword l 1 s1).2.err = 0 := by
   apply Classical.byContradiction; intro hn
   rw [rargs_stop hn] at n1; exact hn n1
  have a2 := row_took (tk := wayK) hl (rway_took hl) (fun s h => rwayIn_end h) n0 n1
  have a3 := need_took (t := kw kIs) hl (kw_tk (c := 105) (w := [115]) (by decide) (by decide) (by decide)) n2
  exact a0.cons ((name_took hl n0).cons (a2.app (a3.cons (rdet_took hl h0))))
 rw [if_neg c3] at h0 ⊢
 simp only [ritClause] at h0 ⊢
 have n1 : (rargs (rterm 66 l 1) l 10 [] (rword l 1 s).2).2.err = 0 := by
  apply Classical.byContradiction; intro hn
  simp only [rgot_errs hn, Bool.false_eq_true, if_false] at h0; exact hn h0
 have n0 : (rword l 1 s).2.err = 0 := by
  apply Classical.byContradiction; intro hn
  rw [rargs_stop hn] at n1; exact hn n1
 have a1 := name_took hl n0
 have a2 := row_took (tk := Tm.toks) hl (rterm_took hl 66 1 (by decide) (by decide)) (fun s h => rterm_end (by decide) h) n0 n1
 rw [← Tm.tokss_map] at a2
 by_cases c : (rgot l kIf (rargs (rterm 66 l 1) l 10 [] (rword l 1 s).2).2).1 = true
 ·rw [if_pos c] at h0 ⊢
  have a3 := got_took (t := tokIf) hl if_tk c
  have b3 := got_ahead (t := tokIf) hl if_tk (by decide) c
  have a4 := rgoal_took hl hB (f := 66) (d := 1) (by decide) (by decide) (s := (rgot l kIf (rargs (rterm 66 l 1) l 10 [] (rword l 1 s).2).2).2) (by rw [rgot_err]; exact n1) b3 h0
  have hg := rgoal_good hl (f := 66) (d := 1) (by decide) (by decide) (s := (rgot l kIf (rargs (rterm 66 l 1) l 10 [] (rword l 1 s).2).2).2) (by rw [rgot_err]; exact n1) h0
  have hne : (rgoal 66 l 1 (rgot l kIf (rargs (rterm 66 l 1) l 10 [] (rword l 1 s).2).2).2).1.kind ≠ 1 := by
   intro hk
   generalize (rgoal 66 l 1 (rgot l kIf (rargs (rterm 66 l 1) l 10 [] (rword l 1 s).2).2).2).1 = g at hk a4
   obtain ⟨t, h1, h2, h3⟩ := rgot_tok c
   obtain ⟨gk, b, b', m, xs, gs⟩ := g
   simp only [Gl.kind] at hk
   subst hk
   have e : (Gl.mk 1 b b' m xs gs).toks = [kw kTrue] := by rw [Gl.toks]; simp
   rw [e, h3] at a4
   have hh : l[(rargs (rterm 66 l 1) l 10 [] (rword l 1 s).2).2.pos + 1]? = some (kw kTrue) := by
    rw [← List.head?_drop, a4]; rfl
   exact hB.tr _ _ _ h1 h2 hh rfl
  have e : ∀ (n : ByteArray) (ts : List Tm) (g : Gl), g.kind ≠ 1 → It.toks { (default : It) with kind := 4, name := n, args := ts, body := g } = kw n :: (rowKs (Tm.tokss ts) ++ tokIf :: g.toks) := fun n ts g h => by
   show kw n :: (rowKs (Tm.tokss ts) ++ (if g.kind = 1 then [] else tokIf :: g.toks)) = _
   rw [if_neg h]
  rw [e _ _ _ hne]
  exact a1.cons (a2.app (a3.cons a4))
 ·rw [if_neg c]
  have := a1.cons a2
  show Took l s.pos _ (kw _ :: (rowKs (Tm.tokss _) ++ []))
  rw [List.append_nil]; exact this
theorem ritems_took (hl : TkOk l) (hB : Bare l) : ∀ (k : Nat) (is : List It) (s : RdS), s.err = 0 → (ritems l k is s).2.err = 0 → ∃ ys, (ritems l k is s).1 = is ++ ys ∧ Took l s.pos (ritems l k is s).2.pos (itsK ys)
 | 0, is, s, _, _ => ⟨[], by simp [ritems], .none l _⟩
 | k + 1, is, s, he, h0 => by
  cases hr : rend l s with
  | true => rw [ritems_stop hr]; exact ⟨[], by simp, .none l _⟩
  | false =>
   obtain ⟨_, g1, g2, _, _, e⟩ := ritems_one hr h0
   rw [e] at h0 ⊢
   obtain ⟨ys, e1, e2⟩ := ritems_took hl hB k _ _ g2 h0
   refine ⟨(ritem l s).1 :: ys, by rw [e1]; simp, ?_⟩
   exact (ritem_took hl hB he g1).app ((need_took (t := tokDot) hl dot_tk g2).cons e2)
theorem source_took {is : List It} (hl : TkOk l) (hB : Bare l) (h : rsource l 0 = (is, 0)) : l = itsK is := by
 obtain ⟨a1, a2, a3⟩ := rsource_ok.1 h
 obtain ⟨ys, e1, e2⟩ := ritems_took hl hB (l.length + 1) [] ⟨0, 0⟩ rfl a2
 rw [a1] at e1
 have e1 : is = ys := e1
 subst e1
 have e2 : l.drop 0 = itsK is ++ l.drop (ritems l (l.length + 1) [] ⟨0, 0⟩).2.pos := e2
 rw [List.drop_eq_nil_iff.2 a3, List.append_nil] at e2
 exact e2
theorem ritems_last {l : List Tok} : ∀ (k : Nat) (is : List It) (s : RdS), s.err = 0 → (ritems l k is s).2.err = 0 → (s.pos = 0 ∨ ∃ t, l[s.pos - 1]? = some t ∧ t.text = kDot) → ((ritems l k is s).2.pos = 0 ∨ ∃ t, l[(ritems l k is s).2.pos - 1]? = some t ∧ t.text = kDot)
 | 0, is, s, _, _, h => h
 | k + 1, is, s, he, h0, h => by
  cases hr : rend l s with
  | true => rw [ritems_stop hr]; exact h
  | false =>
   obtain ⟨_, g1, g2, _, _, e⟩ := ritems_one hr h0
   rw [e] at h0 ⊢
   refine ritems_last k _ _ g2 h0 (.inr ?_)
   obtain ⟨c1, c2⟩ := rneed_got g2
   obtain ⟨t, h1, h2, h3⟩ := rgot_tok c1
   exact ⟨t, by rw [c2, h3]; simpa using h1, h2⟩
theorem source_last {l : List Tok} {is : List It} (h : rsource l 0 = (is, 0)) {i : Nat} {t : Tok} (ht : l[i]? = some t) (hd : t.text ≠ kDot) : i + 1 < l.length := by
 obtain ⟨a1, a2, a3⟩ := rsource_ok.1 h
 have hi := (List.getElem?_eq_some_iff.1 ht).1
 rcases ritems_last (l.length + 1) [] ⟨0, 0⟩ rfl a2 (.inl rfl) with h1 | ⟨u, h1, h2⟩
 ·omega
 ·apply Classical.byContradiction; intro hn
  have := (List.getElem?_eq_some_iff.1 h1).1
  have e : i = (ritems l (l.length + 1) [] ⟨0, 0⟩).2.pos - 1 := by omega
  rw [← e, ht] at h1
  cases h1
  exact hd h2
end
end Go.Aug
