/- Forms, their bytes and tokens, lexed and read back; no conditions but those in each theorem. -/
import Derived.Test.YthldjffimcngaaaGreatDoorPiecesOne
import Derived.Test.YthldjffimcngaaaGreatDoorGrammarOne
import Derived.Lib.Join
import Derived.Test.YthldjffimcngaaaGreatDoorAugFour
set_option linter.all false
set_option linter.unusedVariables false
set_option linter.unusedSimpArgs false
set_option linter.unusedSectionVars false

/- Plain: forms of terms, types, goals: their bytes, their tokens, and that the bytes are lexed as the tokens. -/
namespace Go.Aug
set_option maxRecDepth 100000
set_option linter.unusedSimpArgs false
set_option linter.unusedVariables false
def IsTk (t : Tok) : Prop := ∃ c w, TokIs t c w
def rowT : List (List UInt8) → List UInt8
 | [] => []
 | w :: l => 40 :: (Lib.join (w :: l) [44, 32] ++ [41])
def itoaB (i : Int) : ByteArray := ⟨(Lib.itoa i).toArray⟩
mutual
def Tm.t : Tm → List UInt8
 | .mk k n i args => (if k = 2 then Lib.itoa i else n.data.toList) ++ rowT (Tm.ts args)
def Tm.ts : List Tm → List (List UInt8)
 | [] => []
 | t :: l => t.t :: Tm.ts l
end
mutual
def Tm.good : Nat → Tm → Prop
 | d, .mk k n i args => d ≤ 64 ∧ ((k = 1 ∧ IsTk ⟨2, n, 0⟩ ∧ i = 0 ∧ args = []) ∨ (k = 2 ∧ n = ⟨#[]⟩ ∧ IsTk ⟨3, itoaB i, i⟩ ∧ args = []) ∨ (k = 3 ∧ i = 0 ∧ IsTk ⟨1, n, 0⟩ ∧ isReserved n = false ∧ args.length ≤ 8 ∧ Tm.goods (d + 1) args))
def Tm.goods : Nat → List Tm → Prop
 | _, [] => True
 | d, t :: l => t.good d ∧ Tm.goods d l
end
theorem Tm.goods_of {d : Nat} : ∀ {l : List Tm}, (∀ t ∈ l, t.good d) → Tm.goods d l
 | [], _ => trivial
 | t :: l, h => ⟨h t (.head _), Tm.goods_of fun x hx => h x (.tail _ hx)⟩
mutual
def Ty.t : Ty → List UInt8
 | .mk _ n args => n.data.toList ++ rowT (Ty.ts args)
def Ty.ts : List Ty → List (List UInt8)
 | [] => []
 | t :: l => t.t :: Ty.ts l
end
mutual
def Ty.good : Nat → Ty → Prop
 | d, .mk v n args => d ≤ 64 ∧ ((v = true ∧ IsTk ⟨2, n, 0⟩ ∧ args = []) ∨ (v = false ∧ n = kInt ∧ args = []) ∨ (v = false ∧ IsTk ⟨1, n, 0⟩ ∧ isReserved n = false ∧ args.length ≤ 8 ∧ Ty.goods (d + 1) args))
def Ty.goods : Nat → List Ty → Prop
 | _, [] => True
 | d, t :: l => t.good d ∧ Ty.goods d l
end
theorem Ty.goods_of {d : Nat} : ∀ {l : List Ty}, (∀ t ∈ l, t.good d) → Ty.goods d l
 | [], _ => trivial
 | t :: l, h => ⟨h t (.head _), Ty.goods_of fun x hx => h x (.tail _ hx)⟩
def Gl.kind : Gl → Int
 | .mk k .. => k
def loose (kind k : Int) : Bool := k == 6 || k == 5 && kind != 6
def brT (b : Bool) (s : List UInt8) : List UInt8 := if b then 40 :: (s ++ [41]) else s
mutual
def Gl.t : Gl → List UInt8
 | .mk k a b n args gs =>
  if k = 1 then [116, 114, 117, 101] else if k = 2 then [102, 97, 105, 108] else if k = 3 then a.t ++ [32, 61, 32] ++ b.t else if k = 4 then n.data.toList ++ rowT (Tm.ts args)
  else if k = 5 then Lib.join (Gl.ws k gs) [44, 32] else if k = 6 then Lib.join (Gl.ws k gs) [32, 59, 32]
  else if k = 7 then [110, 111, 116, 32] ++ (Gl.ws k gs).getD 0 [] else if k = 8 then [116, 104, 114, 111, 119, 32] ++ a.t
  else if k = 9 then [116, 114, 121, 32] ++ (Gl.ws k gs).getD 0 [] ++ [32, 99, 97, 116, 99, 104, 32] ++ n.data.toList ++ [32, 116, 104, 101, 110, 32] ++ (Gl.ws k gs).getD 1 [] else []
def Gl.ws : Int → List Gl → List (List UInt8)
 | _, [] => []
 | k, g :: gs => brT (loose k g.kind) g.t :: Gl.ws k gs
end
mutual
def Gl.good : Nat → Gl → Prop
 | d, .mk k a b n args gs =>
  (k = 1 ∧ d ≤ 64 ∧ a = .none ∧ b = .none ∧ n = ⟨#[]⟩ ∧ args = [] ∧ gs = []) ∨ (k = 2 ∧ d ≤ 64 ∧ a = .none ∧ b = .none ∧ n = ⟨#[]⟩ ∧ args = [] ∧ gs = [])
  ∨ (k = 3 ∧ d ≤ 64 ∧ a.good (d + 1) ∧ b.good (d + 1) ∧ n = ⟨#[]⟩ ∧ args = [] ∧ gs = []) ∨ (k = 4 ∧ d ≤ 64 ∧ a = .none ∧ b = .none ∧ (Tm.mk 3 n 0 args).good (d + 1) ∧ gs = [])
  ∨ ((k = 5 ∨ k = 6) ∧ a = .none ∧ b = .none ∧ n = ⟨#[]⟩ ∧ args = [] ∧ 2 ≤ gs.length ∧ Gl.goods k d gs) ∨ (k = 7 ∧ d ≤ 64 ∧ a = .none ∧ b = .none ∧ n = ⟨#[]⟩ ∧ args = [] ∧ gs.length = 1 ∧ Gl.goods k (d + 1) gs)
  ∨ (k = 8 ∧ d ≤ 64 ∧ a.good (d + 1) ∧ b = .none ∧ n = ⟨#[]⟩ ∧ args = [] ∧ gs = []) ∨ (k = 9 ∧ d ≤ 64 ∧ a = .none ∧ b = .none ∧ IsTk ⟨2, n, 0⟩ ∧ args = [] ∧ gs.length = 2 ∧ Gl.goods k (d + 1) gs)
def Gl.goods : Int → Nat → List Gl → Prop
 | _, _, [] => True
 | k, d, g :: gs => (if loose k g.kind = true then d ≤ 64 ∧ g.good (d + 1) else g.good d) ∧ Gl.goods k d gs
end

theorem Gl.goods_of {k : Int} {d : Nat} : ∀ {l : List Gl}, (∀ g ∈ l, (if loose k g.kind = true then d ≤ 64 ∧ g.good (d + 1) else g.good d)) → Gl.goods k d l
 | [], _ => trivial
 | t :: l, h => ⟨h t (.head _), Gl.goods_of fun x hx => h x (.tail _ hx)⟩
theorem joinOf_two (kind : Int) {gs : List Gl} (h : 2 ≤ gs.length) : joinOf kind gs = .mk kind .none .none ⟨#[]⟩ [] gs := by rw [joinOf, if_neg (by omega)]
section
variable {f d p : Nat} {l b : List Tok}
end
end Go.Aug

/- Plain: what the reader reads has a form that is read back. -/
namespace Go.Aug
set_option maxRecDepth 100000
set_option linter.unusedSimpArgs false
set_option linter.unusedVariables false
mutual
theorem Tm.mono : ∀ (t : Tm) (d d' : Nat), d ≤ d' → t.good d' → t.good d
 | .mk k n i args, d, d', hd, ⟨h0, h⟩ => by
  refine ⟨by omega, ?_⟩
  rcases h with h | h | ⟨h1, h2, h3, h4, h5, h6⟩
  ·exact .inl h
  ·exact .inr (.inl h)
  ·exact .inr (.inr ⟨h1, h2, h3, h4, h5, Tm.monos args (d + 1) (d' + 1) (by omega) h6⟩)
theorem Tm.monos : ∀ (l : List Tm) (d d' : Nat), d ≤ d' → Tm.goods d' l → Tm.goods d l
 | [], _, _, _, _ => trivial
 | t :: l, d, d', hd, ⟨h1, h2⟩ => ⟨Tm.mono t d d' hd h1, Tm.monos l d d' hd h2⟩
end
mutual
theorem Gl.mono : ∀ (g : Gl) (d d' : Nat), d ≤ d' → g.good d' → g.good d
 | .mk k a b n args gs, d, d', hd, h => by
  rcases h with ⟨h1, h2, h⟩ | ⟨h1, h2, h⟩ | ⟨h1, h2, h3, h4, h⟩ | ⟨h1, h2, h3, h4, h5, h⟩ | ⟨h1, h2, h3, h4, h5, h6, h7⟩ | ⟨h1, h2, h3, h4, h5, h6, h7, h8⟩ | ⟨h1, h2, h3, h⟩ | ⟨h1, h2, h3, h4, h5, h6, h7, h8⟩
  ·exact .inl ⟨h1, by omega, h⟩
  ·exact .inr (.inl ⟨h1, by omega, h⟩)
  ·exact .inr (.inr (.inl ⟨h1, by omega, Tm.mono a _ _ (by omega) h3, Tm.mono b _ _ (by omega) h4, h⟩))
  ·exact .inr (.inr (.inr (.inl ⟨h1, by omega, h3, h4, Tm.mono _ _ _ (by omega) h5, h⟩)))
  ·exact .inr (.inr (.inr (.inr (.inl ⟨h1, h2, h3, h4, h5, h6, Gl.monos gs k d d' hd h7⟩))))
  ·exact .inr (.inr (.inr (.inr (.inr (.inl ⟨h1, by omega, h3, h4, h5, h6, h7, Gl.monos gs k (d + 1) (d' + 1) (by omega) h8⟩)))))
  ·exact .inr (.inr (.inr (.inr (.inr (.inr (.inl ⟨h1, by omega, Tm.mono a _ _ (by omega) h3, h⟩))))))
  ·exact .inr (.inr (.inr (.inr (.inr (.inr (.inr ⟨h1, by omega, h3, h4, h5, h6, h7, Gl.monos gs k (d + 1) (d' + 1) (by omega) h8⟩))))))
theorem Gl.monos : ∀ (l : List Gl) (k : Int) (d d' : Nat), d ≤ d' → Gl.goods k d' l → Gl.goods k d l
 | [], _, _, _, _, _ => trivial
 | g :: l, k, d, d', hd, ⟨h1, h2⟩ => by
  refine ⟨?_, Gl.monos l k d d' hd h2⟩
  split at h1
  ·rename_i hc
   rw [if_pos hc]
   exact ⟨by omega, Gl.mono g (d + 1) (d' + 1) (by omega) h1.2⟩
  ·rename_i hc
   rw [if_neg hc]
   exact Gl.mono g d d' hd h1
end
structure TkF (t : Tok) : Prop where
 tk : IsTk t
 zero : t.kind = 1 ∨ t.kind = 2 → t.int = 0
 num : t.kind = 3 → t.text = itoaB t.int
theorem num_wd {c : UInt8} {w : List UInt8} (hw : ∀ x ∈ w, isDig x = true) (hd : isDig c = true ∨ (c.toNat : Int) = 45) (h : (rInt ⟨⟨c :: w⟩⟩).2 = true) : (⟨⟨c :: w⟩⟩ : ByteArray) = itoaB (rInt ⟨⟨c :: w⟩⟩).1 := by
 have two : (∀ n, pNum ⟨⟨c :: w⟩⟩ = some n → rInt ⟨⟨c :: w⟩⟩ = (n, true)) ∧ (pNum ⟨⟨c :: w⟩⟩ = none → (rInt ⟨⟨c :: w⟩⟩).2 = false) := by
  rcases hd with hd | hd
  ·refine pNum_pos (fun x hx => ?_) (by simp)
   rcases List.mem_cons.1 (show x ∈ c :: w from hx) with rfl | hx
   ·exact isDig_iff.1 hd
   ·exact isDig_iff.1 (hw x hx)
  ·have e : c = 45 := UInt8.toNat_inj.1 (by show c.toNat = 45; omega)
   subst e
   exact pNum_neg (ds := w) rfl (fun x hx => isDig_iff.1 (hw x hx))
 cases hp : pNum ⟨⟨c :: w⟩⟩ with
 | none => rw [two.2 hp] at h; cases h
 | some n =>
  rw [two.1 n hp]
  unfold pNum at hp
  split at hp
  ·rename_i v hv
   split at hp
   ·rename_i hi
    cases hp
    unfold itoaB
    rw [hi]
   ·cases hp
  ·cases hp
theorem rWord_f {s : ByteArray} {p : Nat} {c : UInt8} (hp : s[p]? = some c) (hb : isBlank c = false) (h37 : ¬ (c.toNat : Int) = 37) (h : (rWord s p c).2 = true) : TkF (rWord s p c).1 := by
 obtain ⟨w, r, hs, ht, hr⟩ := tok_is hp hb h37 h
 refine ⟨⟨c, w, ht⟩, fun hk => ?_, fun hk => ?_⟩
 ·unfold rWord at hk ⊢
  by_cases hl : isLet c = true
  ·rw [if_pos hl]; rfl
  ·rw [if_neg hl] at hk ⊢
   by_cases hd : isDig c = true ∨ (c.toNat : Int) = 45
   ·rw [if_pos hd] at hk; rcases hk with hk | hk <;> cases hk
   ·rw [if_neg hd] at hk ⊢
    split
    ·rfl
    ·split <;> rfl
 ·have htx := ht.text
  unfold rWord at h hk htx ⊢
  by_cases hl : isLet c = true
  ·rw [if_pos hl] at hk; simp only [wordAl] at hk; split at hk <;> cases hk
  ·rw [if_neg hl] at h hk htx ⊢
   by_cases hd : isDig c = true ∨ (c.toNat : Int) = 45
   ·rw [if_pos hd] at h hk htx ⊢
    simp only [wordInt] at h htx ⊢
    have hlt := bat_lt hp
    have hall := runTo_all (q := isDig) (s := s) s.size (p + 1) hlt
    have hle := runTo_le (p := isDig) (s := s) s.size (p + 1) hlt
    generalize runTo isDig s s.size (p + 1) = e at h htx hall hle ⊢
    rw [htx] at h ⊢
    obtain ⟨ha, _⟩ := Bool.and_eq_true_iff.1 h
    refine num_wd (fun x hx => ?_) hd ha
    obtain ⟨i, hi⟩ := List.mem_iff_getElem?.1 hx
    have hil := (List.getElem?_eq_some_iff.1 hi).1
    have hlen : (c :: w).length = e - p := by
     have := congrArg ByteArray.size htx
     rw [ByteArray.size_extract] at this
     have e2 : (⟨⟨c :: w⟩⟩ : ByteArray).size = (c :: w).length := rfl
     omega
    have hx2 : s[p + (i + 1)]? = some x := by
     rw [ba_list, ← List.getElem?_drop, hs, List.getElem?_append_left (by simp; omega), List.getElem?_cons_succ]; exact hi
    obtain ⟨y, hy, hq⟩ := hall (p + (i + 1)) (by omega) (by simp at hlen; omega)
    rw [hx2] at hy; cases hy; exact hq
   ·rw [if_neg hd] at hk
    split at hk
    ·cases hk
    ·split at hk <;> cases hk
theorem rAll_f {s : ByteArray} : ∀ (k p : Nat) (cm : Bool) (pl : List Int) (ts : List Tok), (∀ t ∈ ts, TkF t) → ∀ t ∈ (rAll s k p cm pl ts).2.1, TkF t
 | 0, p, cm, pl, ts, h => h
 | k + 1, p, cm, pl, ts, h => by
  simp only [rAll]
  cases hc : s[p]? with
  | none => exact h
  | some c =>
   simp only
   by_cases h1 : cm = true
   ·rw [if_pos h1]; exact rAll_f k _ _ _ _ h
   ·rw [if_neg h1]
    cases h2 : isBlank c with
    | true => rw [if_pos rfl]; exact rAll_f k _ _ _ _ h
    | false =>
     rw [if_neg Bool.false_ne_true]
     by_cases h3 : (c.toNat : Int) = 37
     ·rw [if_pos h3]; exact rAll_f k _ _ _ _ h
     ·rw [if_neg h3]
      by_cases h4 : (rWord s p c).2 = true
      ·rw [if_pos h4]
       refine rAll_f k _ _ _ _ fun t ht => ?_
       rcases List.mem_append.1 ht with ht | ht
       ·exact h t ht
       ·rw [List.mem_singleton.1 ht]; exact rWord_f hc h2 h3 h4
      ·rw [if_neg h4]; exact h
def TkOk (l : List Tok) : Prop := ∀ t ∈ l, TkF t
theorem rlex_f (s : ByteArray) : TkOk (rlex s).1 := by
 unfold TkOk rlex
 repeat' split
 ·intro _ h; cases h
 ·exact rAll_f _ _ _ _ _ (fun _ h => by cases h)
 ·intro _ h; cases h
theorem TkOk.at_ {l : List Tok} (h : TkOk l) {p : Nat} {t : Tok} (ht : l[p]? = some t) : TkF t := h t (List.mem_of_getElem? ht)
theorem TkF.name {t : Tok} (h : TkF t) (hk : t.kind = 1) : IsTk ⟨1, t.text, 0⟩ := by
 have h0 := h.zero (.inl hk)
 obtain ⟨k, x, i⟩ := t
 simp only at hk h0
 subst hk h0
 exact h.tk
theorem TkF.var {t : Tok} (h : TkF t) (hk : t.kind = 2) : IsTk ⟨2, t.text, 0⟩ := by
 have h0 := h.zero (.inr hk)
 obtain ⟨k, x, i⟩ := t
 simp only at hk h0
 subst hk h0
 exact h.tk
theorem TkF.int3 {t : Tok} (h : TkF t) (hk : t.kind = 3) : IsTk ⟨3, itoaB t.int, t.int⟩ := by
 have h0 := h.num hk
 obtain ⟨k, x, i⟩ := t
 simp only at hk h0
 subst hk h0
 exact h.tk
section
variable {l : List Tok} {s : RdS}
theorem rword_tok {k : Int} (h : (rword l k s).2.err = 0) : ∃ t, l[s.pos]? = some t ∧ t.kind = k ∧ (k = 1 → isReserved t.text = false) ∧ (rword l k s).1 = t.text := by
 obtain ⟨he, _, hr⟩ := rword_ok h
 obtain ⟨_, _, x, hx⟩ := rend_tok hr
 unfold rword at h ⊢
 rw [hr] at h ⊢
 simp only [Bool.false_eq_true, if_false, hx] at h ⊢
 split at h
 ·exact absurd h (rfail_err (by decide) _)
 ·rename_i hc
  refine ⟨x, rfl, ?_, fun hk => ?_, by rw [if_neg hc]⟩
  ·apply Classical.byContradiction; intro hn; exact hc (.inl hn)
  ·cases hr2 : isReserved x.text with
   | false => rfl
   | true => exact absurd (.inr ⟨hk, hr2⟩) hc
theorem rargs_good {α : Type} {P : α → Prop} {q : RdS → α × RdS} (hq : ∀ s, s.err = 0 → (q s).2.err = 0 → P (q s).1) (hend : ∀ s, rend l s = true → (q s).2.err ≠ 0) : ∀ (k : Nat) (xs : List α) (s : RdS), s.err = 0 → (rargs q l k xs s).2.err = 0 → (∀ x ∈ xs, P x) → xs.length ≤ 8 → (∀ x ∈ (rargs q l k xs s).1, P x) ∧ (rargs q l k xs s).1.length ≤ 8
 | 0, xs, s, _, _, h1, h2 => ⟨h1, h2⟩
 | k + 1, xs, s, he, h0, h1, h2 => by
  simp only [rargs, if_pos he] at h0 ⊢
  cases hm : (rmore l xs.length s).1 with
  | false => simp only [Bool.false_eq_true, if_false]; exact ⟨h1, h2⟩
  | true =>
   simp only [hm, if_true] at h0 ⊢
   obtain ⟨r0, _, r8⟩ := rmore_true hm
   by_cases hqe : (q (rmore l xs.length s).2).2.err = 0
   ·have hn8 : xs.length ≠ 8 := fun h => hend _ (r8 h) hqe
    refine rargs_good hq hend k _ _ hqe h0 (fun x hx => ?_) (by simp only [List.length_append, List.length_cons, List.length_nil]; omega)
    rcases List.mem_append.1 hx with hx | hx
    ·exact h1 x hx
    ·rw [List.mem_singleton.1 hx]; exact hq _ r0 hqe
   ·rw [rargs_stop hqe] at h0
    exact absurd h0 hqe
theorem rterm_good (hl : TkOk l) : ∀ (f d : Nat), d ≤ 65 → 67 ≤ f + d → ∀ s : RdS, s.err = 0 → (rterm f l d s).2.err = 0 → (rterm f l d s).1.good d
 | 0, d, h1, h2 => by omega
 | f + 1, d, h1, h2 => by
  intro s he h0
  cases hr : rend l s with
  | true => exact absurd h0 (rterm_end (by omega) hr)
  | false =>
   obtain ⟨_, hlt, k, hk⟩ := rend_tok hr
   have hd : d ≤ 64 := by
    apply Classical.byContradiction; intro hn
    have e := nest_big he (show 64 < d by omega) hlt
    rw [rterm_nerr (err_3 e), e] at h0; cases h0
   have e0 := rterm_is (l := l) (f := f) (n := d) he (by rw [rnest_no hd]; exact he)
   rw [rpeek_some hk] at e0
   rw [e0] at h0 ⊢
   have hF := hl.at_ hk
   by_cases c2 : k.kind = 2
   ·rw [if_pos c2]
    exact ⟨hd, .inl ⟨rfl, hF.var c2, rfl, rfl⟩⟩
   ·rw [if_neg c2] at h0 ⊢
    by_cases c3 : k.kind = 3
    ·rw [if_pos c3]
     exact ⟨hd, .inr (.inl ⟨rfl, rfl, hF.int3 c3, rfl⟩)⟩
    ·rw [if_neg c3] at h0 ⊢
     by_cases hw : (rword l 1 s).2.err = 0
     ·obtain ⟨t, ht, tk, tr, te⟩ := rword_tok hw
      obtain ⟨g1, g2⟩ := rargs_good (P := Tm.good (d + 1)) (rterm_good hl f (d + 1) (by omega) (by omega)) (fun s h => rterm_end (by omega) h) 10 [] _ hw h0 (fun x hx => by cases hx) (by simp)
      refine ⟨hd, .inr (.inr ⟨rfl, rfl, ?_, ?_, g2, Tm.goods_of g1⟩)⟩
      ·rw [te]; exact (hl.at_ ht).name tk
      ·rw [te]; exact tr rfl
     ·rw [rargs_stop hw] at h0
      exact absurd h0 hw
theorem rtype_good (hl : TkOk l) : ∀ (f d : Nat), d ≤ 65 → 67 ≤ f + d → ∀ s : RdS, s.err = 0 → (rtype f l d s).2.err = 0 → (rtype f l d s).1.good d
 | 0, d, h1, h2 => by omega
 | f + 1, d, h1, h2 => by
  intro s he h0
  cases hr : rend l s with
  | true => exact absurd h0 (rtype_end (by omega) hr)
  | false =>
   obtain ⟨_, hlt, k, hk⟩ := rend_tok hr
   have hd : d ≤ 64 := by
    apply Classical.byContradiction; intro hn
    have e := nest_big he (show 64 < d by omega) hlt
    rw [rtype_nerr (err_3 e), e] at h0; cases h0
   have e0 := rtype_is (l := l) (f := f) (n := d) he (by rw [rnest_no hd]; exact he)
   rw [rpeek_some hk] at e0
   rw [e0] at h0 ⊢
   have hF := hl.at_ hk
   by_cases c2 : k.kind = 2
   ·rw [if_pos c2]
    exact ⟨hd, .inl ⟨rfl, hF.var c2, rfl⟩⟩
   ·rw [if_neg c2] at h0 ⊢
    by_cases c3 : (rgot l kInt s).1 = true
    ·rw [if_pos c3]
     exact ⟨hd, .inr (.inl ⟨rfl, rfl, rfl⟩)⟩
    ·rw [if_neg c3] at h0 ⊢
     by_cases hw : (rword l 1 s).2.err = 0
     ·obtain ⟨t, ht, tk, tr, te⟩ := rword_tok hw
      obtain ⟨g1, g2⟩ := rargs_good (P := Ty.good (d + 1)) (rtype_good hl f (d + 1) (by omega) (by omega)) (fun s h => rtype_end (by omega) h) 10 [] _ hw h0 (fun x hx => by cases hx) (by simp)
      refine ⟨hd, .inr (.inr ⟨rfl, ?_, ?_, g2, Ty.goods_of g1⟩)⟩
      ·rw [te]; exact (hl.at_ ht).name tk
      ·rw [te]; exact tr rfl
     ·rw [rargs_stop hw] at h0
      exact absurd h0 hw
def InF (k : Int) (d : Nat) (g : Gl) : Prop := if loose k g.kind = true then d ≤ 64 ∧ g.good (d + 1) else g.good d
theorem loose_5 {k : Int} (h : k ≠ 6) (g : Int) : loose k g = loose 5 g := by
 have h2 : (k != 6) = true := by simpa using h
 unfold loose
 rw [h2]; rfl
theorem InF.of {k : Int} (h : k ≠ 6) {d : Nat} {g : Gl} (hg : InF 5 d g) : InF k d g := by unfold InF at hg ⊢; rw [loose_5 h]; exact hg
theorem InF.up {k : Int} {d : Nat} {g : Gl} (hd : d ≤ 64) (h : g.good (d + 1)) : InF k d g := by
 unfold InF; split
 ·exact ⟨hd, h⟩
 ·exact Gl.mono g d (d + 1) (by omega) h
theorem InF.plain {k : Int} {d : Nat} {g : Gl} (hg : InF k d g) : g.good d := by
 unfold InF at hg; split at hg
 ·exact Gl.mono g d (d + 1) (by omega) hg.2
 ·exact hg
theorem InF.six {d : Nat} {g : Gl} (hg : InF 5 d g) : InF 6 d g := by
 by_cases h : g.kind = 6
 ·have h5 : loose 5 g.kind = true := by rw [h]; rfl
  have h6 : loose 6 g.kind = true := by rw [h]; rfl
  unfold InF at hg ⊢
  rw [if_pos h5] at hg
  rw [if_pos h6]
  exact hg
 ·have h6 : loose 6 g.kind = false := by simp [loose, h]
  have := hg.plain
  unfold InF
  rw [h6, if_neg Bool.false_ne_true]
  exact this
theorem rjoin_all {P : Gl → Prop} {q : RdS → Gl × RdS} {m : ByteArray} (hq : ∀ s, s.err = 0 → (q s).2.err = 0 → P (q s).1) : ∀ (k : Nat) (gs : List Gl) (s : RdS), s.err = 0 → (rjoin q m l k gs s).2.err = 0 → (∀ g ∈ gs, P g) → ∀ g ∈ (rjoin q m l k gs s).1, P g
 | 0, gs, s, _, _, h => h
 | k + 1, gs, s, he, h0, h => by
  simp only [rjoin] at h0 ⊢
  split at h0
  ·rename_i hg
   rw [if_pos hg]
   by_cases hqe : (q (rgot l m s).2).2.err = 0
   ·refine rjoin_all hq k _ _ hqe h0 fun g hx => ?_
    rcases List.mem_append.1 hx with hx | hx
    ·exact h g hx
    ·rw [List.mem_singleton.1 hx]; exact hq _ (by rw [rgot_err]; exact he) hqe
   ·rw [rjoin_err hqe] at h0
    exact absurd h0 hqe
  ·rename_i hg
   rw [if_neg hg]; exact h
theorem rjoined_all {P : Gl → Prop} {q : RdS → Gl × RdS} {m : ByteArray} {kind : Int} (hq : ∀ s, s.err = 0 → (q s).2.err = 0 → P (q s).1) (he : s.err = 0) (h0 : (rjoined kind m q l s).2.err = 0) : ∃ gs, gs ≠ [] ∧ (∀ g ∈ gs, P g) ∧ (rjoined kind m q l s).1 = joinOf kind gs := by
 simp only [rjoined] at h0 ⊢
 by_cases hqe : (q s).2.err = 0
 ·refine ⟨_, rjoin_ne _ _ _ (by simp), rjoin_all hq _ _ _ hqe h0 (fun g hg => ?_), rfl⟩
  rw [List.mem_singleton.1 hg]; exact hq _ he hqe
 ·rw [rjoin_err hqe] at h0
  exact absurd h0 hqe
theorem joinOf_cases (kind : Int) {gs : List Gl} (h : gs ≠ []) : (∃ g, gs = [g] ∧ joinOf kind gs = g) ∨ (2 ≤ gs.length ∧ joinOf kind gs = .mk kind .none .none ⟨#[]⟩ [] gs) := by
 match gs, h with
 | [g], _ => exact .inl ⟨g, rfl, join_one kind g⟩
 | g :: g2 :: gs, _ => exact .inr ⟨by simp, joinOf_two kind (by simp)⟩
theorem rgoalW_good {q : RdS → Gl × RdS} {d : Nat} (hq : ∀ s, s.err = 0 → (q s).2.err = 0 → InF 5 d (q s).1) (hs : Steps l q) (he : s.err = 0) (h0 : (rgoalW q l s).2.err = 0) : (rgoalW q l s).1.good d := by
 rw [rgoal_join hs he] at h0 ⊢
 obtain ⟨os, hne, ho, e⟩ := rjoined_all (P := InF 6 d) (fun s he h0 => by
  obtain ⟨gs, hne, hg, e⟩ := rjoined_all (P := InF 5 d) hq he h0
  rw [e]
  rcases joinOf_cases 5 hne with ⟨g, rfl, e2⟩ | ⟨h2, e2⟩
  ·rw [e2]; exact (hg g (.head _)).six
  ·rw [e2]
   show InF 6 d _
   unfold InF
   rw [show loose 6 (Gl.mk 5 .none .none ⟨#[]⟩ [] gs).kind = false from rfl, if_neg Bool.false_ne_true]
   exact .inr (.inr (.inr (.inr (.inl ⟨.inl rfl, rfl, rfl, rfl, rfl, h2, Gl.goods_of hg⟩))))) he h0
 rw [e]
 rcases joinOf_cases 6 hne with ⟨g, rfl, e2⟩ | ⟨h2, e2⟩
 ·rw [e2]; exact (ho g (.head _)).plain
 ·rw [e2]
  exact .inr (.inr (.inr (.inr (.inl ⟨.inr rfl, rfl, rfl, rfl, rfl, h2, Gl.goods_of ho⟩))))
theorem InF.low {d : Nat} {g : Gl} (h : loose 5 g.kind = false) (hg : g.good d) : InF 5 d g := by unfold InF; rw [h, if_neg Bool.false_ne_true]; exact hg
theorem rprim_good (hl : TkOk l) : ∀ (f d : Nat), d ≤ 65 → 67 ≤ f + d → ∀ s : RdS, s.err = 0 → (rprim f l d s).2.err = 0 → InF 5 d (rprim f l d s).1
 | 0, d, h1, h2 => by omega
 | f + 1, d, h1, h2 => by
  intro s he h0
  cases hr : rend l s with
  | true => exact absurd h0 (rprim_end (by omega) hr)
  | false =>
   obtain ⟨_, hlt, k, hk⟩ := rend_tok hr
   have hd : d ≤ 64 := by
    apply Classical.byContradiction; intro hn
    have e := nest_big he (show 64 < d by omega) hlt
    rw [rprim_nerr (err_3 e), e] at h0; cases h0
   have e0 := rnest_no (l := l) (s := s) hd
   have ge := fun t => show (rgot l t s).2.err = 0 by rw [rgot_err]; exact he
   have ht := rterm_good hl f (d + 1) (by omega) (by omega)
   have hq := rprim_good hl f (d + 1) (by omega) (by omega)
   simp only [rprim, e0] at h0 ⊢
   by_cases c1 : (rgot l kTrue s).1 = true
   ·rw [if_pos c1]; exact .low rfl (.inl ⟨rfl, hd, rfl, rfl, rfl, rfl, rfl⟩)
   rw [if_neg c1] at h0 ⊢
   by_cases c2 : (rgot l kFail s).1 = true
   ·rw [if_pos c2]; exact .low rfl (.inr (.inl ⟨rfl, hd, rfl, rfl, rfl, rfl, rfl⟩))
   rw [if_neg c2] at h0 ⊢
   by_cases c3 : (rgot l kNot s).1 = true
   ·rw [if_pos c3] at h0 ⊢
    have := (hq _ (ge _) h0).of (k := 7) (by decide)
    exact .low rfl (.inr (.inr (.inr (.inr (.inr (.inl ⟨rfl, hd, rfl, rfl, rfl, rfl, rfl, this, trivial⟩))))))
   rw [if_neg c3] at h0 ⊢
   by_cases c4 : (rgot l kThrow s).1 = true
   ·rw [if_pos c4] at h0 ⊢
    exact .low rfl (.inr (.inr (.inr (.inr (.inr (.inr (.inl ⟨rfl, hd, ht _ (ge _) h0, rfl, rfl, rfl, rfl⟩)))))))
   rw [if_neg c4] at h0 ⊢
   by_cases c5 : (rgot l kTry s).1 = true
   ·rw [if_pos c5] at h0 ⊢
    have hst := rprim_sticky l f (d + 1)
    obtain ⟨t1, t2⟩ := rtry_is (l := l) (s := (rgot l kTry s).2) hst
    rw [t2] at h0
    rw [t1]
    generalize (rgot l kTry s).2 = s1 at h0 ge
    have n4 : (rneed l kThen (rword l 2 (rneed l kCatch (rprim f l (d + 1) s1).2)).2).err = 0 := by
     apply Classical.byContradiction; intro hn
     rw [hst _ hn] at h0; exact hn h0
    have n3 := (rneed_ok n4).1
    have n2 := (rword_ok n3).1
    have n1 := (rneed_ok n2).1
    have ns : s1.err = 0 := by
     apply Classical.byContradiction; intro hn
     rw [hst _ hn] at n1; exact hn n1
    obtain ⟨t, tt, tk, _, te⟩ := rword_tok n3
    have g1 := (hq _ ns n1).of (k := 9) (by decide)
    have g2 := (hq _ n4 h0).of (k := 9) (by decide)
    refine .low rfl (.inr (.inr (.inr (.inr (.inr (.inr (.inr ⟨rfl, hd, rfl, rfl, ?_, rfl, rfl, g1, g2, trivial⟩)))))))
    rw [te]; exact (hl.at_ tt).var tk
   rw [if_neg c5] at h0 ⊢
   by_cases c6 : (rgot l kOpen s).1 = true
   ·rw [if_pos c6] at h0 ⊢
    have n1 := (rneed_ok h0).1
    exact .up hd (rgoalW_good hq (rprim_steps l f (d + 1)) (ge _) n1)
   rw [if_neg c6] at h0 ⊢
   have ha : (rterm f l (d + 1) s).2.err = 0 := by
    apply Classical.byContradiction; intro hn
    simp only [rcall, rgot_errs hn, Bool.false_eq_true, if_false] at h0
    split at h0
    ·exact hn h0
    ·rw [rfail, if_neg hn] at h0; exact hn h0
   have hga := ht s he ha
   simp only [rcall] at h0 ⊢
   by_cases hg : (rgot l kEq (rterm f l (d + 1) s).2).1 = true
   ·rw [if_pos hg] at h0 ⊢
    exact .low rfl (.inr (.inr (.inl ⟨rfl, hd, hga, ht _ (by rw [rgot_err]; exact ha) h0, rfl, rfl, rfl⟩)))
   ·rw [if_neg hg] at h0 ⊢
    by_cases hk3 : (rterm f l (d + 1) s).1.kind = 3
    ·refine .low rfl (.inr (.inr (.inr (.inl ⟨rfl, hd, rfl, rfl, ?_, rfl⟩))))
     generalize (rterm f l (d + 1) s).1 = x at hga hk3
     obtain ⟨xk, xn, xi, xs⟩ := x
     simp only [Tm.kind] at hk3
     subst hk3
     have hi : xi = 0 := by
      rcases hga.2 with ⟨h, _⟩ | ⟨h, _⟩ | ⟨_, h, _⟩
      ·cases h
      ·cases h
      ·exact h
     subst hi
     exact hga
    ·rw [if_neg hk3] at h0
     exact absurd h0 (rfail_err (by decide) _)
theorem rgoal_good (hl : TkOk l) {f d : Nat} (h1 : d ≤ 65) (h2 : 67 ≤ f + d) (he : s.err = 0) (h0 : (rgoal f l d s).2.err = 0) : (rgoal f l d s).1.good d :=
 rgoalW_good (rprim_good hl f d h1 h2) (rprim_steps l f d) he h0
end
end Go.Aug

/- Plain: items: their forms are lexed and read back; what is read is good. -/
namespace Go.Aug
set_option maxRecDepth 100000
set_option linter.unusedSimpArgs false
set_option linter.unusedVariables false
def detT (n : Int) : List UInt8 := if n = 1 then [100, 101, 116] else if n = 2 then [115, 101, 109, 105, 100, 101, 116] else if n = 3 then [109, 117, 108, 116, 105] else if n = 4 then [110, 111, 110, 100, 101, 116] else []
def wayT (b : Bool) : List UInt8 := if b then [105, 110] else [111, 117, 116]
def Ct.t (c : Ct) : List UInt8 := c.name.data.toList ++ rowT (Ty.ts c.args)
def ctorsT (l : List Ct) : List UInt8 := Lib.join (l.map Ct.t) [32, 124, 32]
def It.t0 (i : It) : List UInt8 :=
 if i.kind = 1 then [116, 121, 112, 101, 32] ++ i.name.data.toList ++ rowT (i.vars.map (·.data.toList)) ++ [32, 61, 32] ++ ctorsT i.ctors
 else if i.kind = 2 then [112, 114, 101, 100, 32] ++ i.name.data.toList ++ rowT (Ty.ts i.types)
 else if i.kind = 3 then [109, 111, 100, 101, 32] ++ i.name.data.toList ++ rowT (i.ways.map wayT) ++ [32, 105, 115, 32] ++ detT i.det
 else if i.kind = 4 then i.name.data.toList ++ rowT (Tm.ts i.args) ++ (if i.body.kind = 1 then [] else [32, 58, 45, 32] ++ i.body.t)
 else []
def It.t (i : It) : List UInt8 := i.t0 ++ [46, 10]
structure NameOk (n : ByteArray) : Prop where
 tk : IsTk ⟨1, n, 0⟩
 res : isReserved n = false
structure Ct.Good (c : Ct) : Prop where
 name : NameOk c.name
 few : c.args.length ≤ 8
 args : Ty.goods 1 c.args
inductive It.Good : It → Prop
 | type {n : ByteArray} {vs : List ByteArray} {cs : List Ct} (hn : NameOk n) (h8 : vs.length ≤ 8) (hv : ∀ v ∈ vs, IsTk ⟨2, v, 0⟩) (hne : cs ≠ []) (hc : ∀ c ∈ cs, c.Good) : It.Good { (default : It) with kind := 1, name := n, vars := vs, ctors := cs }
 | pred {n : ByteArray} {ts : List Ty} (hn : NameOk n) (h8 : ts.length ≤ 8) (ht : Ty.goods 1 ts) : It.Good { (default : It) with kind := 2, name := n, types := ts }
 | mode {n : ByteArray} {ws : List Bool} {d : Int} (hn : NameOk n) (h8 : ws.length ≤ 8) (hd : d = 1 ∨ d = 2 ∨ d = 3 ∨ d = 4) : It.Good { (default : It) with kind := 3, name := n, ways := ws, det := d }
 | clause {n : ByteArray} {ts : List Tm} {g : Gl} (hn : NameOk n) (h8 : ts.length ≤ 8) (ht : Tm.goods 1 ts) (hg : g.good 1) : It.Good { (default : It) with kind := 4, name := n, args := ts, body := g }
/-- A source's text, its tokens. -/
def itsT : List It → List UInt8
 | [] => []
 | i :: l => i.t ++ itsT l
section
variable {l : List Tok}
end
section
variable {l : List Tok} {s : RdS}
theorem rword_name (hl : TkOk l) (h : (rword l 1 s).2.err = 0) : NameOk (rword l 1 s).1 := by
 obtain ⟨t, ht, tk, tr, te⟩ := rword_tok h
 rw [te]
 exact ⟨(hl.at_ ht).name tk, tr rfl⟩
theorem rctor_good (hl : TkOk l) (he : s.err = 0) (h0 : (rctor l s).2.err = 0) : (rctor l s).1.Good := by
 simp only [rctor] at h0 ⊢
 by_cases hw : (rword l 1 s).2.err = 0
 ·obtain ⟨g1, g2⟩ := rargs_good (P := Ty.good 1) (rtype_good hl 66 1 (by decide) (by decide)) (fun s h => rtype_end (by decide) h) 10 [] _ hw h0 (fun x hx => by cases hx) (by simp)
  exact ⟨rword_name hl hw, g2, Ty.goods_of g1⟩
 ·rw [rargs_stop hw] at h0
  exact absurd h0 hw
theorem rbars_good (hl : TkOk l) : ∀ (k : Nat) (cs : List Ct) (s : RdS), s.err = 0 → (rbars l k cs s).2.err = 0 → cs ≠ [] → (∀ c ∈ cs, c.Good) → (rbars l k cs s).1 ≠ [] ∧ ∀ c ∈ (rbars l k cs s).1, c.Good
 | 0, cs, s, _, _, h1, h2 => ⟨h1, h2⟩
 | k + 1, cs, s, he, h0, h1, h2 => by
  simp only [rbars] at h0 ⊢
  split at h0
  ·rename_i hg
   rw [if_pos hg]
   by_cases hqe : (rctor l (rgot l kBar s).2).2.err = 0
   ·refine rbars_good hl k _ _ hqe h0 (by simp) fun c hc => ?_
    rcases List.mem_append.1 hc with hc | hc
    ·exact h2 c hc
    ·rw [List.mem_singleton.1 hc]; exact rctor_good hl (by rw [rgot_err]; exact he) hqe
   ·rw [rbars_e hqe] at h0
    exact absurd h0 hqe
  ·rename_i hg
   rw [if_neg hg]; exact ⟨h1, h2⟩
theorem rdet_good (h0 : (rdet l s).2.err = 0) : (rdet l s).1 = 1 ∨ (rdet l s).1 = 2 ∨ (rdet l s).1 = 3 ∨ (rdet l s).1 = 4 := by
 unfold rdet at h0 ⊢
 by_cases c1 : (rgot l kDet s).1 = true
 ·rw [if_pos c1]; exact .inl rfl
 rw [if_neg c1] at h0 ⊢
 by_cases c2 : (rgot l kSemi2 s).1 = true
 ·rw [if_pos c2]; exact .inr (.inl rfl)
 rw [if_neg c2] at h0 ⊢
 by_cases c3 : (rgot l kMulti s).1 = true
 ·rw [if_pos c3]; exact .inr (.inr (.inl rfl))
 rw [if_neg c3] at h0 ⊢
 by_cases c4 : (rgot l kNon s).1 = true
 ·rw [if_pos c4]; exact .inr (.inr (.inr rfl))
 rw [if_neg c4] at h0
 exact absurd h0 (rfail_err (by decide) _)
theorem ritem_good (hl : TkOk l) (he : s.err = 0) (h0 : (ritem l s).2.err = 0) : (ritem l s).1.Good := by
 have ge := fun t => show (rgot l t s).2.err = 0 by rw [rgot_err]; exact he
 simp only [ritem] at h0 ⊢
 by_cases c1 : (rgot l kType s).1 = true
 ·rw [if_pos c1] at h0 ⊢
  generalize (rgot l kType s).2 = s1 at h0
  simp only [ritType] at h0 ⊢
  have n3 : (rctor l (rneed l kEq (rargs (rword l 2) l 10 [] (rword l 1 s1).2).2)).2.err = 0 := by
   apply Classical.byContradiction; intro hn
   rw [rbars_e hn] at h0; exact hn h0
  have n2 : (rneed l kEq (rargs (rword l 2) l 10 [] (rword l 1 s1).2).2).err = 0 := by
   apply Classical.byContradiction; intro hn
   simp only [rctor, rword_err hn, rargs_stop hn] at n3; exact hn n3
  have n1 := (rneed_ok n2).1
  have n0 : (rword l 1 s1).2.err = 0 := by
   apply Classical.byContradiction; intro hn
   rw [rargs_stop hn] at n1; exact hn n1
  obtain ⟨g1, g2⟩ := rargs_good (P := fun v => IsTk ⟨2, v, 0⟩) (fun s _ h => by obtain ⟨t, ht, tk, _, te⟩ := rword_tok h; rw [te]; exact (hl.at_ ht).var tk) (fun s h => rword_end h) 10 [] _ n0 n1 (fun x hx => by cases hx) (by simp)
  obtain ⟨g3, g4⟩ := rbars_good hl l.length [_] _ n3 h0 (by simp) (fun c hc => by rw [List.mem_singleton.1 hc]; exact rctor_good hl n2 n3)
  exact .type (rword_name hl n0) g2 g1 g3 g4
 rw [if_neg c1] at h0 ⊢
 by_cases c2 : (rgot l kPred s).1 = true
 ·rw [if_pos c2] at h0 ⊢
  generalize (rgot l kPred s).2 = s1 at h0
  simp only [ritPred] at h0 ⊢
  have n0 : (rword l 1 s1).2.err = 0 := by
   apply Classical.byContradiction; intro hn
   rw [rargs_stop hn] at h0; exact hn h0
  obtain ⟨g1, g2⟩ := rargs_good (P := Ty.good 1) (rtype_good hl 66 1 (by decide) (by decide)) (fun s h => rtype_end (by decide) h) 10 [] _ n0 h0 (fun x hx => by cases hx) (by simp)
  exact .pred (rword_name hl n0) g2 (Ty.goods_of g1)
 rw [if_neg c2] at h0 ⊢
 by_cases c3 : (rgot l kMode s).1 = true
 ·rw [if_pos c3] at h0 ⊢
  generalize (rgot l kMode s).2 = s1 at h0
  simp only [ritMode] at h0 ⊢
  have n2 : (rneed l kIs (rargs (rwayIn l) l 10 [] (rword l 1 s1).2).2).err = 0 := by
   apply Classical.byContradiction; intro hn
   exact rdet_err hn h0
  have n1 := (rneed_ok n2).1
  have n0 : (rword l 1 s1).2.err = 0 := by
   apply Classical.byContradiction; intro hn
   rw [rargs_stop hn] at n1; exact hn n1
  obtain ⟨_, g2⟩ := rargs_good (P := fun _ => True) (fun s _ _ => trivial) (fun s h => rwayIn_end h) 10 [] _ n0 n1 (fun x hx => by cases hx) (by simp)
  exact .mode (rword_name hl n0) g2 (rdet_good h0)
 rw [if_neg c3] at h0 ⊢
 simp only [ritClause] at h0 ⊢
 have n1 : (rargs (rterm 66 l 1) l 10 [] (rword l 1 s).2).2.err = 0 := by
  apply Classical.byContradiction; intro hn
  simp only [rgot_errs hn, Bool.false_eq_true, if_false] at h0; exact hn h0
 have n0 : (rword l 1 s).2.err = 0 := by
  apply Classical.byContradiction; intro hn
  rw [rargs_stop hn] at n1; exact hn n1
 obtain ⟨g1, g2⟩ := rargs_good (P := Tm.good 1) (rterm_good hl 66 1 (by decide) (by decide)) (fun s h => rterm_end (by decide) h) 10 [] _ n0 n1 (fun x hx => by cases hx) (by simp)
 by_cases c : (rgot l kIf (rargs (rterm 66 l 1) l 10 [] (rword l 1 s).2).2).1 = true
 ·rw [if_pos c] at h0 ⊢
  exact .clause (rword_name hl n0) g2 (Tm.goods_of g1) (rgoal_good hl (by decide) (by decide) (by rw [rgot_err]; exact n1) h0)
 ·rw [if_neg c]
  exact .clause (rword_name hl n0) g2 (Tm.goods_of g1) (.inl ⟨rfl, by decide, rfl, rfl, rfl, rfl, rfl⟩)
theorem ritems_good (hl : TkOk l) : ∀ (k : Nat) (is : List It) (s : RdS), s.err = 0 → (ritems l k is s).2.err = 0 → (∀ i ∈ is, i.Good) → ∀ i ∈ (ritems l k is s).1, i.Good
 | 0, is, s, _, _, h => h
 | k + 1, is, s, he, h0, h => by
  cases hr : rend l s with
  | true => rw [ritems_stop hr]; exact h
  | false =>
   obtain ⟨_, g1, g2, _, _, e⟩ := ritems_one hr h0
   rw [e] at h0 ⊢
   refine ritems_good hl k _ _ g2 h0 fun i hi => ?_
   rcases List.mem_append.1 hi with hi | hi
   ·exact h i hi
   ·rw [List.mem_singleton.1 hi]; exact ritem_good hl he g1
end
/-- What a source says, is good. -/
theorem source_good {s : ByteArray} {is : List It} (h : rsource (rlex s).1 (rlex s).2 = (is, 0)) : (∀ i ∈ is, i.Good) ∧ is.length ≤ 512 := by
 obtain ⟨l, e1, r1⟩ := rsrc_ok.1 h
 have hl := rlex_f s
 rw [e1] at hl
 obtain ⟨a1, a2, _⟩ := rsource_ok.1 r1
 rw [← a1]
 exact ⟨ritems_good hl _ _ _ rfl a2 (fun i hi => by cases hi), ritems_length _ _ _ (by simp)⟩
/-- A text's bytes, as a text. -/
def bytesB (l : List UInt8) : ByteArray := ⟨l.toArray⟩
theorem bytesB_size (l : List UInt8) : (bytesB l).size = l.length := by simp [bytesB, ByteArray.size]
end Go.Aug

/- Plain: what is read is not large. -/
namespace Go.Aug
set_option maxRecDepth 100000
set_option linter.unusedSimpArgs false
set_option linter.unusedVariables false
theorem nodess_append : ∀ (xs ys : List Tm), Tm.nodess (xs ++ ys) = Tm.nodess xs + Tm.nodess ys
 | [], ys => by simp [Tm.nodess]
 | x :: xs, ys => by simp only [List.cons_append, Tm.nodess, nodess_append xs ys]; omega
theorem rargs_nodes {p : RdS → Tm × RdS} {l : List Tok} (hp : ∀ s, (p s).1.nodes + s.pos ≤ 1 + (p s).2.pos) : ∀ (k : Nat) (xs : List Tm) (s : RdS), Tm.nodess (rargs p l k xs s).1 + s.pos ≤ Tm.nodess xs + (rargs p l k xs s).2.pos
 | 0, xs, s => Nat.le_refl _
 | k + 1, xs, s => by
  simp only [rargs]
  split
  ·split
   ·rename_i h1 h2
    have hm := (rmore_true h2).2.1
    have h3 := hp (rmore l xs.length s).2
    have h4 := rargs_nodes (l := l) hp k (xs ++ [(p (rmore l xs.length s).2).1]) (p (rmore l xs.length s).2).2
    rw [nodess_append] at h4
    simp only [Tm.nodess] at h4
    omega
   ·have := rmore_ge l xs.length s; show Tm.nodess xs + s.pos ≤ Tm.nodess xs + (rmore l xs.length s).2.pos; omega
  ·exact Nat.le_refl _
theorem rterm_nodes {l : List Tok} : ∀ (f n : Nat) (s : RdS), (rterm f l n s).1.nodes + s.pos ≤ 1 + (rterm f l n s).2.pos
 | 0, _, s => Nat.le_refl _
 | f + 1, n, s => by
  have hn := rnest_pos l n s
  have hw := rword_ge l 1 (rnest l n s)
  have h1 := rargs_nodes (l := l) (rterm_nodes (l := l) f (n + 1)) 10 [] (rword l 1 (rnest l n s)).2
  simp only [Tm.nodess] at h1
  simp only [rterm]
  split
  ·split
   ·simp only [Tm.nodes, Tm.nodess]; omega
   ·split
    ·simp only [Tm.nodes, Tm.nodess]; omega
    ·simp only [Tm.nodes]; omega
  ·simp only [Tm.nodes]; omega
theorem gnodess_append : ∀ (xs ys : List Gl), Gl.nodess (xs ++ ys) = Gl.nodess xs + Gl.nodess ys
 | [], ys => by simp [Gl.nodess]
 | x :: xs, ys => by simp only [List.cons_append, Gl.nodess, gnodess_append xs ys]; omega
theorem gnodes_none (k : Int) (n : ByteArray) (xs : List Tm) (gs : List Gl) : (Gl.mk k .none .none n xs gs).nodes = 3 + Tm.nodess xs + Gl.nodess gs := by simp only [Gl.nodes, Tm.none, Tm.nodes, Tm.nodess]
theorem headD_nodes : ∀ gs : List Gl, (gs.headD default).nodes ≤ 3 + Gl.nodess gs
 | [] => by show (Gl.mk 0 .none .none ⟨#[]⟩ [] []).nodes ≤ _; rw [gnodes_none]; simp [Tm.nodess, Gl.nodess]
 | g :: gs => by simp only [List.headD_cons, Gl.nodess]; omega
theorem headD_nodes1 {gs : List Gl} (h : gs ≠ []) : (gs.headD default).nodes ≤ Gl.nodess gs := by
 cases gs with
 | nil => exact absurd rfl h
 | cons g gs => simp only [List.headD_cons, Gl.nodess]; omega
theorem rands_nodes {p : RdS → Gl × RdS} {l : List Tok} (hp : ∀ s, (p s).1.nodes + 6 * s.pos ≤ 3 + 6 * (p s).2.pos) : ∀ (k : Nat) (gs : List Gl) (s : RdS), Gl.nodess (rands p l k gs s).1 + 6 * s.pos ≤ Gl.nodess gs + 6 * (rands p l k gs s).2.pos
 | 0, gs, s => Nat.le_refl _
 | k + 1, gs, s => by
  simp only [rands]
  split
  ·rename_i h
   have hm := (rgot_true h).2.1
   have h3 := hp (rgot l kComma s).2
   have h4 := rands_nodes (l := l) hp k (gs ++ [(p (rgot l kComma s).2).1]) (p (rgot l kComma s).2).2
   rw [gnodess_append] at h4
   simp only [Gl.nodess] at h4
   omega
  ·exact Nat.le_refl _
theorem rands_ne {p : RdS → Gl × RdS} {l : List Tok} : ∀ (k : Nat) (gs : List Gl) (s : RdS), gs ≠ [] → (rands p l k gs s).1 ≠ []
 | 0, gs, s, h => h
 | k + 1, gs, s, h => by
  simp only [rands]
  split
  ·exact rands_ne k _ _ (by simp)
  ·exact h
theorem rway_nodes {p : RdS → Gl × RdS} {l : List Tok} (hp : ∀ s, (p s).1.nodes + 6 * s.pos ≤ 3 + 6 * (p s).2.pos) (s : RdS) : (rway p l s).1.nodes + 6 * s.pos ≤ 6 + 6 * (rway p l s).2.pos := by
 have h1 := rands_nodes (l := l) hp l.length [(p s).1] (p s).2
 have h2 := hp s
 simp only [Gl.nodess] at h1
 simp only [rway, allOf]
 split
 ·rw [gnodes_none]; simp only [Tm.nodess]; omega
 ·have := headD_nodes1 (rands_ne (p := p) (l := l) l.length [(p s).1] (p s).2 (by simp)); omega
theorem rors_nodes {p : RdS → Gl × RdS} {l : List Tok} (hp : ∀ s, (p s).1.nodes + 6 * s.pos ≤ 3 + 6 * (p s).2.pos) : ∀ (k : Nat) (os : List Gl) (s : RdS), Gl.nodess (rors p l k os s).1 + 6 * s.pos ≤ Gl.nodess os + 6 + 6 * (rors p l k os s).2.pos
 | 0, os, s => by simp only [rors]; omega
 | k + 1, os, s => by
  have hw := rway_nodes (l := l) hp s
  simp only [rors]
  split
  ·split
   ·rename_i h
    have hm := (rgot_true h).2.1
    have h4 := rors_nodes (l := l) hp k (os ++ [(rway p l s).1]) (rgot l kSemi (rway p l s).2).2
    rw [gnodess_append] at h4
    simp only [Gl.nodess] at h4
    omega
   ·show Gl.nodess (os ++ [(rway p l s).1]) + 6 * s.pos ≤ Gl.nodess os + 6 + 6 * (rway p l s).2.pos
    rw [gnodess_append]
    simp only [Gl.nodess]; omega
  ·show Gl.nodess os + 6 * s.pos ≤ Gl.nodess os + 6 + 6 * s.pos
   omega
theorem rgoalW_nodes {p : RdS → Gl × RdS} {l : List Tok} (hp : ∀ s, (p s).1.nodes + 6 * s.pos ≤ 3 + 6 * (p s).2.pos) (s : RdS) : (rgoalW p l s).1.nodes + 6 * s.pos ≤ 9 + 6 * (rgoalW p l s).2.pos := by
 have h := rors_nodes (l := l) hp (l.length + 1) [] s
 simp only [Gl.nodess] at h
 simp only [rgoalW, anyOf]
 split
 ·have := headD_nodes (rors p l (l.length + 1) [] s).1; omega
 ·rw [gnodes_none]; simp only [Tm.nodess]; omega
theorem Tm.nodes_args (t : Tm) : t.nodes = 1 + Tm.nodess t.args := by cases t; rfl
theorem rprim_nodes {l : List Tok} : ∀ (f n : Nat) (s : RdS), (rprim f l n s).1.nodes + 6 * s.pos ≤ 3 + 6 * (rprim f l n s).2.pos
 | 0, _, s => by show (Gl.mk 0 .none .none ⟨#[]⟩ [] []).nodes + _ ≤ _; rw [gnodes_none]; simp only [Tm.nodess, Gl.nodess]; exact Nat.le_refl _
 | f + 1, n, s0 => by
  have hn := rnest_pos l n s0
  have ih := rprim_nodes (l := l) f (n + 1)
  simp only [rprim]
  generalize rnest l n s0 = s at hn ⊢
  split
  ·rename_i h; have hm := (rgot_true h).2.1; simp only [gnodes_none, Tm.nodess, Gl.nodess]; omega
  split
  ·rename_i h; have hm := (rgot_true h).2.1; simp only [gnodes_none, Tm.nodess, Gl.nodess]; omega
  split
  ·rename_i h; have hm := (rgot_true h).2.1; have h1 := ih (rgot l kNot s).2; simp only [gnodes_none, Tm.nodess, Gl.nodess]; omega
  split
  ·rename_i h; have hm := (rgot_true h).2.1; have h1 := rterm_nodes (l := l) f (n + 1) (rgot l kThrow s).2; simp only [Gl.nodes, Tm.none, Tm.nodes, Tm.nodess, Gl.nodess]; omega
  split
  ·rename_i h
   have hm := (rgot_true h).2.1
   have h1 := ih (rgot l kTry s).2
   have h2 := rneed_ge l kCatch (rprim f l (n + 1) (rgot l kTry s).2).2
   have h3 := rword_ge l 2 (rneed l kCatch (rprim f l (n + 1) (rgot l kTry s).2).2)
   have h4 := rneed_ge l kThen (rword l 2 (rneed l kCatch (rprim f l (n + 1) (rgot l kTry s).2).2)).2
   have h5 := ih (rneed l kThen (rword l 2 (rneed l kCatch (rprim f l (n + 1) (rgot l kTry s).2).2)).2)
   simp only [rtry, gnodes_none, Tm.nodess, Gl.nodess]; omega
  split
  ·rename_i h
   have hm := (rgot_true h).2.1
   have h1 := rgoalW_nodes (l := l) ih (rgot l kOpen s).2
   have h2 := rneed_ge l kClose (rgoalW (rprim f l (n + 1)) l (rgot l kOpen s).2).2
   show (rgoalW (rprim f l (n + 1)) l (rgot l kOpen s).2).1.nodes + _ ≤ 3 + 6 * (rneed l kClose (rgoalW (rprim f l (n + 1)) l (rgot l kOpen s).2).2).pos
   omega
  ·have h1 := rterm_nodes (l := l) f (n + 1) s
   have h7 := (rterm f l (n + 1) s).1.nodes_pos
   simp only [rcall]
   split
   ·rename_i h
    have hm := (rgot_true h).2.1
    have h2 := rterm_nodes (l := l) f (n + 1) (rgot l kEq (rterm f l (n + 1) s).2).2
    have h5 := (rterm f l (n + 1) s).1.nodes_pos
    have h6 := (rterm f l (n + 1) (rgot l kEq (rterm f l (n + 1) s).2).2).1.nodes_pos
    simp only [Gl.nodes, Tm.nodess, Gl.nodess]; omega
   ·have h3 := Tm.nodes_args (rterm f l (n + 1) s).1
    simp only [gnodes_none, Gl.nodess]
    split
    ·omega
    ·rw [rfail_pos]; omega
theorem rgoal_nodes {l : List Tok} (f n : Nat) (s : RdS) : (rgoal f l n s).1.nodes + 6 * s.pos ≤ 9 + 6 * (rgoal f l n s).2.pos := rgoalW_nodes (fun s => rprim_nodes f n s) s
def sumOf {α : Type} (μ : α → Nat) : List α → Nat
 | [] => 0
 | x :: l => μ x + sumOf μ l
theorem sumOf_app {α : Type} (μ : α → Nat) : ∀ (a b : List α), sumOf μ (a ++ b) = sumOf μ a + sumOf μ b
 | [], b => by simp [sumOf]
 | x :: a, b => by simp only [List.cons_append, sumOf, sumOf_app μ a b]; omega
theorem rargs_wt {α : Type} (μ : α → Nat) {p : RdS → α × RdS} {l : List Tok} (hp : ∀ s, μ (p s).1 + s.pos ≤ 1 + (p s).2.pos) : ∀ (k : Nat) (xs : List α) (s : RdS), sumOf μ (rargs p l k xs s).1 + s.pos ≤ sumOf μ xs + (rargs p l k xs s).2.pos
 | 0, xs, s => Nat.le_refl _
 | k + 1, xs, s => by
  simp only [rargs]
  have hge := rmore_ge l xs.length s
  split
  ·split
   ·rename_i hm
    have h1 := rargs_wt μ (l := l) hp k (xs ++ [(p (rmore l xs.length s).2).1]) (p (rmore l xs.length s).2).2
    have h2 := hp (rmore l xs.length s).2
    have h3 := (rmore_true hm).2.1
    rw [sumOf_app] at h1
    simp only [sumOf] at h1
    omega
   ·simp only; omega
  ·exact Nat.le_refl _
theorem Ty.nodess_sum : ∀ l : List Ty, Ty.nodess l = sumOf Ty.nodes l
 | [] => rfl
 | t :: l => by rw [Ty.nodess, sumOf, Ty.nodess_sum l]
theorem rtype_nodes {l : List Tok} : ∀ (f n : Nat) (s : RdS), (rtype f l n s).1.nodes + s.pos ≤ 1 + (rtype f l n s).2.pos
 | 0, n, s => by simp only [rtype]; show (Ty.nodes default) + s.pos ≤ 1 + s.pos; have : (default : Ty).nodes = 1 := rfl; omega
 | f + 1, n, s => by
  have hp := rnest_pos l n s
  have hw := rargs_wt Ty.nodes (l := l) (rtype_nodes (l := l) f (n + 1)) 10 [] (rword l 1 (rnest l n s)).2
  have hg := rword_ge l 1 (rnest l n s)
  have hi := rgot_ge l kInt (rnest l n s)
  simp only [sumOf] at hw
  simp only [rtype]
  repeat' split
  ·simp only [Ty.nodes, Ty.nodess]; omega
  ·simp only [Ty.nodes, Ty.nodess]; omega
  ·simp only [Ty.nodes, Ty.nodess_sum]; omega
def Ct.nodes (c : Ct) : Nat := 1 + Ty.nodess c.args
def It.wt (i : It) : Nat := i.body.nodes + Tm.nodess i.args + Ty.nodess i.types + sumOf Ct.nodes i.ctors + i.vars.length + i.ways.length
theorem sumOf_one {α : Type} : ∀ l : List α, sumOf (fun _ => 1) l = l.length
 | [] => rfl
 | x :: l => by rw [sumOf, sumOf_one l, List.length_cons]; omega
theorem rctor_nodes {l : List Tok} (s : RdS) : (rctor l s).1.nodes + s.pos ≤ 1 + (rctor l s).2.pos := by
 have hw := rargs_wt Ty.nodes (l := l) (rtype_nodes (l := l) 66 1) 10 [] (rword l 1 s).2
 have hg := rword_ge l 1 s
 simp only [sumOf] at hw
 simp only [rctor, Ct.nodes, Ty.nodess_sum]; omega
theorem rbars_nodes {l : List Tok} : ∀ (k : Nat) (cs : List Ct) (s : RdS), sumOf Ct.nodes (rbars l k cs s).1 + s.pos ≤ sumOf Ct.nodes cs + (rbars l k cs s).2.pos
 | 0, cs, s => Nat.le_refl _
 | k + 1, cs, s => by
  simp only [rbars]
  split
  ·rename_i hg
   have h1 := rbars_nodes (l := l) k (cs ++ [(rctor l (rgot l kBar s).2).1]) (rctor l (rgot l kBar s).2).2
   have h2 := rctor_nodes (l := l) (rgot l kBar s).2
   have h3 := (rgot_true hg).2.1
   rw [sumOf_app] at h1
   simp only [sumOf] at h1
   omega
  ·exact Nat.le_refl _
theorem ritem_wt {l : List Tok} (s : RdS) : (ritem l s).1.wt + 6 * s.pos ≤ 12 + 6 * (ritem l s).2.pos := by
 have hb : (Gl.mk 0 .none .none ⟨#[]⟩ [] []).nodes = 3 := rfl
 unfold ritem
 split
 ·have g0 := rgot_ge l kType s
  generalize (rgot l kType s).2 = s1 at g0
  simp only [ritType]
  have g1 := rword_ge l 1 s1
  have g2 := rargs_wt (fun _ => 1) (l := l) (p := rword l 2) (fun s => by have := rword_ge l 2 s; omega) 10 [] (rword l 1 s1).2
  have g3 := rneed_ge l kEq (rargs (rword l 2) l 10 [] (rword l 1 s1).2).2
  have g4 := rctor_nodes (l := l) (rneed l kEq (rargs (rword l 2) l 10 [] (rword l 1 s1).2).2)
  have g5 := rbars_nodes (l := l) l.length [(rctor l (rneed l kEq (rargs (rword l 2) l 10 [] (rword l 1 s1).2).2)).1] (rctor l (rneed l kEq (rargs (rword l 2) l 10 [] (rword l 1 s1).2).2)).2
  simp only [sumOf, sumOf_one] at g2 g5
  show Gl.nodes (Gl.mk 0 .none .none ⟨#[]⟩ [] []) + Tm.nodess [] + Ty.nodess [] + _ + _ + 0 + _ ≤ _
  rw [hb]
  simp only [Tm.nodess, Ty.nodess]
  omega
 split
 ·have g0 := rgot_ge l kPred s
  generalize (rgot l kPred s).2 = s1 at g0
  simp only [ritPred]
  have g1 := rword_ge l 1 s1
  have g2 := rargs_wt Ty.nodes (l := l) (rtype_nodes (l := l) 66 1) 10 [] (rword l 1 s1).2
  simp only [sumOf] at g2
  show Gl.nodes (Gl.mk 0 .none .none ⟨#[]⟩ [] []) + Tm.nodess [] + Ty.nodess _ + 0 + 0 + 0 + _ ≤ _
  rw [hb]
  simp only [Tm.nodess, Ty.nodess_sum]
  omega
 split
 ·have g0 := rgot_ge l kMode s
  generalize (rgot l kMode s).2 = s1 at g0
  simp only [ritMode]
  have g1 := rword_ge l 1 s1
  have g2 := rargs_wt (fun _ => 1) (l := l) (p := rwayIn l) (fun s => by have := (rwayIn_steps l).ge s; omega) 10 [] (rword l 1 s1).2
  have g3 := rneed_ge l kIs (rargs (rwayIn l) l 10 [] (rword l 1 s1).2).2
  have g4 := (rdet_steps l).ge (rneed l kIs (rargs (rwayIn l) l 10 [] (rword l 1 s1).2).2)
  simp only [sumOf, sumOf_one] at g2
  show Gl.nodes (Gl.mk 0 .none .none ⟨#[]⟩ [] []) + Tm.nodess [] + Ty.nodess [] + 0 + 0 + _ + _ ≤ _
  rw [hb]
  simp only [Tm.nodess, Ty.nodess]
  omega
 ·have hw := rword_ge l 1 s
  have h1 := rargs_nodes (l := l) (rterm_nodes (l := l) 66 1) 10 [] (rword l 1 s).2
  simp only [Tm.nodess] at h1
  simp only [ritClause]
  split
  ·rename_i h
   have hm := (rgot_true h).2.1
   have h2 := rgoal_nodes (l := l) 66 1 (rgot l kIf (rargs (rterm 66 l 1) l 10 [] (rword l 1 s).2).2).2
   show Gl.nodes _ + Tm.nodess _ + Ty.nodess [] + 0 + 0 + 0 + _ ≤ _
   simp only [Ty.nodess]
   omega
  ·show Gl.nodes (Gl.mk 1 .none .none ⟨#[]⟩ [] []) + Tm.nodess _ + Ty.nodess [] + 0 + 0 + 0 + _ ≤ _
   rw [show Gl.nodes (Gl.mk 1 .none .none ⟨#[]⟩ [] []) = 3 from rfl]
   simp only [Ty.nodess]
   omega
theorem ritems_wt {l : List Tok} (hl : l.length ≤ 16384) : ∀ (k : Nat) (is : List It) (s : RdS), s.pos ≤ l.length → (∀ i ∈ is, i.wt ≤ 98316) → ∀ i ∈ (ritems l k is s).1, i.wt ≤ 98316
 | 0, is, s, _, h => h
 | k + 1, is, s, hs, h => by
  simp only [ritems]
  split
  ·exact h
  ·split
   ·exact h
   ·refine ritems_wt hl k _ _ (rneed_le ((ritem_steps l).le _ hs)) fun i hi => ?_
    rcases List.mem_append.1 hi with hi | hi
    ·exact h i hi
    ·rw [List.mem_singleton.1 hi]
     have h1 := ritem_wt (l := l) s
     have h2 := (ritem_steps l).le _ hs
     omega
theorem tk_short {k : Int} {n : ByteArray} (hk : k = 1 ∨ k = 2) (h : IsTk ⟨k, n, 0⟩) : n.size ≤ 32 := by
 obtain ⟨c, w, h⟩ := h
 have hw := h.word ⟨⟨c :: w⟩⟩ 0 [] (by simp) (.inr (fun x hx => by cases hx))
 have hc : (⟨⟨c :: w⟩⟩ : ByteArray)[0]? = some c := by rw [ba_list]; rfl
 have hkk : (rWord ⟨⟨c :: w⟩⟩ 0 c).1.kind = k := by rw [hw]
 have hok : (rWord ⟨⟨c :: w⟩⟩ 0 c).2 = true := by rw [hw]
 have htx : (rWord ⟨⟨c :: w⟩⟩ 0 c).1.text = n := by rw [hw]
 rw [← htx]
 unfold rWord at hok hkk ⊢
 by_cases hl : isLet c = true
 ·rw [if_pos hl] at hok ⊢
  simp only [wordAl] at hok ⊢
  have := of_decide_eq_true hok
  rw [ByteArray.size_extract]
  omega
 ·rw [if_neg hl] at hkk
  exfalso
  split at hkk
  ·simp only [wordInt] at hkk; omega
  ·split at hkk
   ·simp only at hkk; omega
   ·split at hkk
    ·simp only at hkk; omega
    ·simp only at hkk; omega
mutual
theorem Tm.sz : ∀ (t : Tm) (d : Nat), t.good d → D.sizes t.cs + 1 ≤ 42 * t.nodes
 | .mk k n i args, d, ⟨_, h⟩ => by
  have hn : n.size ≤ 32 := by
   rcases h with ⟨_, h, _⟩ | ⟨_, rfl, _⟩ | ⟨_, _, h, _⟩
   ·exact tk_short (.inr rfl) h
   ·decide
   ·exact tk_short (.inl rfl) h
  have ha : D.sizes (Tm.ds args) ≤ 42 * Tm.nodess args := by
   rcases h with ⟨_, _, _, rfl⟩ | ⟨_, _, _, rfl⟩ | ⟨_, _, _, _, _, h⟩
   ·simp [Tm.ds, D.sizes]
   ·simp [Tm.ds, D.sizes]
   ·exact Tm.szs args (d + 1) h
  simp only [Tm.cs, D.sizes, D.size, Tm.nodes]
  omega
theorem Tm.szs : ∀ (l : List Tm) (d : Nat), Tm.goods d l → D.sizes (Tm.ds l) ≤ 42 * Tm.nodess l
 | [], _, _ => by simp [Tm.ds, D.sizes]
 | t :: l, d, ⟨h1, h2⟩ => by
  have a := Tm.sz t d h1
  have b := Tm.szs l d h2
  simp only [Tm.ds, D.sizes, D.size, Tm.nodess]
  omega
end
mutual
theorem Ty.sz : ∀ (t : Ty) (d : Nat), t.good d → D.sizes t.cs + 1 ≤ 42 * t.nodes
 | .mk v n args, d, ⟨_, h⟩ => by
  have hn : n.size ≤ 32 := by
   rcases h with ⟨_, h, _⟩ | ⟨_, rfl, _⟩ | ⟨_, h, _⟩
   ·exact tk_short (.inr rfl) h
   ·decide
   ·exact tk_short (.inl rfl) h
  have ha : D.sizes (Ty.ds args) ≤ 42 * Ty.nodess args := by
   rcases h with ⟨_, _, rfl⟩ | ⟨_, _, rfl⟩ | ⟨_, _, _, _, h⟩
   ·simp [Ty.ds, D.sizes]
   ·simp [Ty.ds, D.sizes]
   ·exact Ty.szs args (d + 1) h
  simp only [Ty.cs, D.sizes, D.size, Ty.nodes]
  omega
theorem Ty.szs : ∀ (l : List Ty) (d : Nat), Ty.goods d l → D.sizes (Ty.ds l) ≤ 42 * Ty.nodess l
 | [], _, _ => by simp [Ty.ds, D.sizes]
 | t :: l, d, ⟨h1, h2⟩ => by
  have a := Ty.sz t d h1
  have b := Ty.szs l d h2
  simp only [Ty.ds, D.sizes, D.size, Ty.nodess]
  omega
end
theorem Tm.none_sz : D.sizes Tm.none.cs + 1 ≤ 42 * Tm.none.nodes := by decide
mutual
theorem Gl.sz : ∀ (g : Gl) (d : Nat), g.good d → D.sizes g.cs + 1 ≤ 42 * g.nodes
 | .mk k a b n args gs, d, h => by
  have hz : (⟨#[]⟩ : ByteArray).size = 0 := rfl
  have n0 := Tm.none_sz
  have key : D.sizes a.cs + 1 ≤ 42 * a.nodes ∧ D.sizes b.cs + 1 ≤ 42 * b.nodes ∧ n.size ≤ 32 ∧ D.sizes (Tm.ds args) ≤ 42 * Tm.nodess args ∧ D.sizes (Gl.ds gs) ≤ 42 * Gl.nodess gs := by
   have e1 : D.sizes (Tm.ds []) ≤ 42 * Tm.nodess [] := by simp [Tm.ds, D.sizes]
   have e2 : D.sizes (Gl.ds []) ≤ 42 * Gl.nodess [] := by simp [Gl.ds, D.sizes]
   rcases h with ⟨_, _, rfl, rfl, rfl, rfl, rfl⟩ | ⟨_, _, rfl, rfl, rfl, rfl, rfl⟩ | ⟨_, _, ha, hb, rfl, rfl, rfl⟩ | ⟨_, _, rfl, rfl, hc, rfl⟩ | ⟨_, rfl, rfl, rfl, rfl, _, hg⟩ | ⟨_, _, rfl, rfl, rfl, rfl, _, hg⟩ | ⟨_, _, ha, rfl, rfl, rfl, rfl⟩ | ⟨_, _, rfl, rfl, hn, rfl, _, hg⟩
   ·exact ⟨n0, n0, by omega, e1, e2⟩
   ·exact ⟨n0, n0, by omega, e1, e2⟩
   ·exact ⟨Tm.sz a _ ha, Tm.sz b _ hb, by omega, e1, e2⟩
   ·have hc2 := hc.2
    rcases hc2 with ⟨h, _⟩ | ⟨h, _⟩ | ⟨_, _, h1, _, _, h2⟩
    ·exact absurd h (by decide)
    ·exact absurd h (by decide)
    ·exact ⟨n0, n0, tk_short (.inl rfl) h1, Tm.szs args _ h2, e2⟩
   ·exact ⟨n0, n0, by omega, e1, Gl.szs gs _ _ hg⟩
   ·exact ⟨n0, n0, by omega, e1, Gl.szs gs _ _ hg⟩
   ·exact ⟨Tm.sz a _ ha, n0, by omega, e1, e2⟩
   ·exact ⟨n0, n0, tk_short (.inr rfl) hn, e1, Gl.szs gs _ _ hg⟩
  obtain ⟨k1, k2, k3, k4, k5⟩ := key
  simp only [Gl.cs, D.sizes, D.size, D.sizes_append, Gl.nodes, ← Tm.ds_map]
  omega
theorem Gl.szs : ∀ (l : List Gl) (k : Int) (d : Nat), Gl.goods k d l → D.sizes (Gl.ds l) ≤ 42 * Gl.nodess l
 | [], _, _, _ => by simp [Gl.ds, D.sizes]
 | t :: l, k, d, ⟨h1, h2⟩ => by
  have a : D.sizes t.cs + 1 ≤ 42 * t.nodes := by
   split at h1
   ·exact Gl.sz t (d + 1) h1.2
   ·exact Gl.sz t d h1
  have b := Gl.szs l k d h2
  simp only [Gl.ds, D.sizes, D.size, Gl.nodess]
  omega
end
theorem names_sz : ∀ (l : List ByteArray), (∀ v ∈ l, IsTk ⟨2, v, 0⟩) → D.sizes (l.map .str) ≤ 42 * l.length
 | [], _ => by simp [D.sizes]
 | v :: l, h => by
  have a := tk_short (.inr rfl) (h v (.head _))
  have b := names_sz l fun x hx => h x (.tail _ hx)
  simp only [List.map_cons, D.sizes, D.size, List.length_cons]
  omega
theorem bools_sz : ∀ (l : List Bool), D.sizes (l.map .bool) = l.length
 | [] => rfl
 | v :: l => by simp only [List.map_cons, D.sizes, D.size, List.length_cons, bools_sz l]; omega
theorem ctors_sz : ∀ (l : List Ct), (∀ c ∈ l, c.Good) → D.sizes (l.map Ct.d) ≤ 42 * sumOf Ct.nodes l
 | [], _ => by simp [D.sizes]
 | c :: l, h => by
  have h0 := h c (.head _)
  have a := tk_short (.inl rfl) h0.name.tk
  have b := ctors_sz l fun x hx => h x (.tail _ hx)
  have d := Ty.szs c.args 1 h0.args
  simp only [List.map_cons, D.sizes, D.size, Ct.d, Ct.cs, sumOf, Ct.nodes, ← Ty.ds_map]
  omega
theorem It.sz {i : It} (h : i.Good) : D.sizes i.cs ≤ 42 * i.wt + 60 := by
 have hb : D.sizes (Gl.mk 0 .none .none ⟨#[]⟩ [] []).cs = 12 := by decide
 have e1 : D.sizes (([] : List ByteArray).map D.str) = 0 := rfl
 have e2 : D.sizes (([] : List Ct).map Ct.d) = 0 := rfl
 have e3 : D.sizes (([] : List Ty).map Ty.d) = 0 := rfl
 have e4 : D.sizes (([] : List Bool).map D.bool) = 0 := rfl
 have e5 : D.sizes (([] : List Tm).map Tm.d) = 0 := rfl
 cases h with
 | @type n vs cs hn h8 hv hne hc =>
  have a := tk_short (.inl rfl) hn.tk
  have b := names_sz vs hv
  have c := ctors_sz cs hc
  show D.sizes (_ ++ (Gl.mk 0 .none .none ⟨#[]⟩ [] []).cs) ≤ 42 * (_ + _ + _ + _ + _ + _) + 60
  rw [D.sizes_append, hb]
  simp only [D.sizes, D.size]
  show 1 + (n.size + 1 + (D.sizes (vs.map .str) + 1 + (D.sizes (cs.map Ct.d) + 1 + (D.sizes (([] : List Ty).map Ty.d) + 1 + (D.sizes (([] : List Bool).map D.bool) + 1 + (1 + (D.sizes (([] : List Tm).map Tm.d) + 1 + 0))))))) + 12 ≤ 42 * (3 + 0 + 0 + sumOf Ct.nodes cs + vs.length + 0) + 60
  omega
 | @pred n ts hn h8 ht =>
  have a := tk_short (.inl rfl) hn.tk
  have b := Ty.szs ts 1 ht
  rw [Ty.ds_map] at b
  show D.sizes (_ ++ (Gl.mk 0 .none .none ⟨#[]⟩ [] []).cs) ≤ 42 * (_ + _ + _ + _ + _ + _) + 60
  rw [D.sizes_append, hb]
  simp only [D.sizes, D.size]
  show 1 + (n.size + 1 + (D.sizes (([] : List ByteArray).map D.str) + 1 + (D.sizes (([] : List Ct).map Ct.d) + 1 + (D.sizes (ts.map Ty.d) + 1 + (D.sizes (([] : List Bool).map D.bool) + 1 + (1 + (D.sizes (([] : List Tm).map Tm.d) + 1 + 0))))))) + 12 ≤ 42 * (3 + 0 + Ty.nodess ts + 0 + 0 + 0) + 60
  omega
 | @mode n ws d hn h8 hd =>
  have a := tk_short (.inl rfl) hn.tk
  have b := bools_sz ws
  show D.sizes (_ ++ (Gl.mk 0 .none .none ⟨#[]⟩ [] []).cs) ≤ 42 * (_ + _ + _ + _ + _ + _) + 60
  rw [D.sizes_append, hb]
  simp only [D.sizes, D.size]
  show 1 + (n.size + 1 + (D.sizes (([] : List ByteArray).map D.str) + 1 + (D.sizes (([] : List Ct).map Ct.d) + 1 + (D.sizes (([] : List Ty).map Ty.d) + 1 + (D.sizes (ws.map D.bool) + 1 + (1 + (D.sizes (([] : List Tm).map Tm.d) + 1 + 0))))))) + 12 ≤ 42 * (3 + 0 + 0 + 0 + 0 + ws.length) + 60
  omega
 | @clause n ts g hn h8 ht hg =>
  have a := tk_short (.inl rfl) hn.tk
  have b := Tm.szs ts 1 ht
  have c := Gl.sz g 1 hg
  rw [Tm.ds_map] at b
  show D.sizes (_ ++ g.cs) ≤ 42 * (_ + _ + _ + _ + _ + _) + 60
  rw [D.sizes_append]
  simp only [D.sizes, D.size]
  show 1 + (n.size + 1 + (D.sizes (([] : List ByteArray).map D.str) + 1 + (D.sizes (([] : List Ct).map Ct.d) + 1 + (D.sizes (([] : List Ty).map Ty.d) + 1 + (D.sizes (([] : List Bool).map D.bool) + 1 + (1 + (D.sizes (ts.map Tm.d) + 1 + 0))))))) + D.sizes g.cs ≤ 42 * (g.nodes + Tm.nodess ts + 0 + 0 + 0 + 0) + 60
  omega
def InI (n : Int) : Prop := -9223372036854775808 ≤ n ∧ n ≤ 9223372036854775807
theorem wrap_in64 (x : Int) : InI (IntKind.i64.wrap x) := by unfold InI; rw [IntKind.wrap_i64]; omega
theorem rIntLoop_in {d : ByteArray} : ∀ (k : Nat) (n : Int) (i : Nat) (m : Int), InI n → rIntLoop d k n i = some m → InI m
 | 0, n, i, m, h, e => by simp only [rIntLoop] at e; cases e; exact h
 | k + 1, n, i, m, h, e => by
  simp only [rIntLoop] at e
  split at e
  ·cases e; exact h
  ·split at e
   ·cases e
   ·exact rIntLoop_in k _ _ m (wrap_in64 _) e
theorem inI_0 : InI 0 := ⟨by decide, by decide⟩
theorem rInt_in (s : ByteArray) : InI (rInt s).1 := by
 unfold rInt
 generalize rIntCut s = d
 by_cases h1 : d.size = 0 ∨ 19 < d.size ∨ (byteIs d 0 48 = true ∧ 1 < s.size)
 ·rw [if_pos h1]; exact inI_0
 ·rw [if_neg h1]
  cases hn : rIntLoop d d.size 0 0 with
  | none => exact inI_0
  | some n =>
   have hi := rIntLoop_in _ _ _ _ inI_0 hn
   simp only
   by_cases h2 : byteIs s 0 45 = true
   ·rw [if_pos h2]; exact hi
   ·rw [if_neg h2]
    by_cases h3 : n = -9223372036854775808
    ·rw [if_pos h3]; exact inI_0
    ·rw [if_neg h3]; exact wrap_in64 _
theorem rWord_in (s : ByteArray) (p : Nat) (c : UInt8) : InI (rWord s p c).1.int := by
 unfold rWord
 by_cases h1 : isLet c = true
 ·rw [if_pos h1]; exact inI_0
 rw [if_neg h1]
 by_cases h2 : isDig c = true ∨ (c.toNat : Int) = 45
 ·rw [if_pos h2]; exact rInt_in _
 rw [if_neg h2]
 by_cases h3 : (c.toNat : Int) = 58 ∧ p + 1 < s.size ∧ byteIs s (p + 1) 45 = true
 ·rw [if_pos h3]; exact inI_0
 rw [if_neg h3]
 by_cases h4 : kMarks.contains c.toNat = true
 ·rw [if_pos h4]; exact inI_0
 rw [if_neg h4]; exact inI_0
theorem tk_int {x : ByteArray} {i : Int} (h : IsTk ⟨3, x, i⟩) : InI i := by
 obtain ⟨c, w, h⟩ := h
 have hw := h.word ⟨⟨c :: w⟩⟩ 0 [] (by simp) (.inr (fun x hx => by cases hx))
 have := rWord_in ⟨⟨c :: w⟩⟩ 0 c
 rw [hw] at this
 exact this
/-- An item of a source that is read. -/
theorem source_sz {s : ByteArray} {is : List It} (h : rsource (rlex s).1 (rlex s).2 = (is, 0)) : ∀ i ∈ is, D.sizes i.cs ≤ 4194304 := fun i hi => by
 have h0 := It.sz ((source_good h).1 i hi)
 obtain ⟨l, e1, r1⟩ := rsrc_ok.1 h
 have hl := rlex_len s
 rw [e1] at hl
 obtain ⟨a1, _, _⟩ := rsource_ok.1 r1
 rw [← a1] at hi
 have := ritems_wt hl _ [] ⟨0, 0⟩ (Nat.zero_le _) (fun i hi => by cases hi) i hi
 omega
end Go.Aug
