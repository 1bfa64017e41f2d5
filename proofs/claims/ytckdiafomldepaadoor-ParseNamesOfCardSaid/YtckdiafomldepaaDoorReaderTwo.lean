/- The facts of the program's functions, and the contracts of its lexer and parser; conditions stand in each contract. -/
import Derived.Test.YtckdiafomldepaaDoorReaderOne
import Derived.Test.YtckdiafomldepaaDoorGrammarOne
set_option linter.all false
set_option linter.unusedVariables false
set_option linter.unusedSimpArgs false
set_option linter.unusedSectionVars false

/- The program's parser: its place, and the small steps over the tokens. -/
namespace Go.Aug
open Go.Proofs
set_option maxRecDepth 100000
set_option linter.unusedSimpArgs false
attribute [local irreducible] hid andK letA onSome onVar onArr arrOnly onInt onBool onTup idxA ldV ldD addO ofPart appTo fillL slA srcK nilQ retW gif sgd sguard svc sops sdops sagain aopO aLoad aStore aBin aUn aConv aLen aIndexAddr aIndex aIndexAddrS aIndexS aSlice aAppend aBuild aBuildSlice aMakeSlice aField aFieldOf aCallOp deepK deepL frzM putE newK newV growV ACall roundQ thenQ inBlockQ sret cnd szs nilC aLookup aMapUpdate aMakeMap
attribute [local go_sem] Int.natCast_zero
theorem ACallP.hp_in {P : Program} {V : Env} {f : FuncId} {args : List A} {R : Heap} {b : Nat} {o : AObj} {K : A → Heap → Prop} {KP : Value → Heap → Prop} (h : R b = some o) (k : ACallP P V f args (hp R [(b, o)]) K KP) : ACallP P V f args R K KP := by rw [hp_one h] at k; exact k
/-- What a parser gives up with. -/
def errG (e : Int) : Nat := if e = 3 then 0 else if e = 4 then 1 else if e = 1 then 3 else 2
def boxV (eb : EbG) (g : Nat) : Value := .iface 82 (.agg #[(seatV eb).E g])
def boxE (eb : EbG) (e : Int) : Value := boxV eb (errG e)
abbrev psA (l : List Tok) (n : Nat) : List A := [.d (.slice (l.map Tok.d)), .d (.int .i64 n)]
/-- A parser in memory, that has met no error. -/
structure PsAt (H : Heap) (p : Nat) (l : List Tok) (s : RdS) : Prop where
 at_ : H p = some (.var (psA l s.pos))
 short : l.length < 1073741824
 le : s.pos ≤ l.length
 ok : s.err = 0
def pset (H : Heap) (p : Nat) (l : List Tok) (s : RdS) : Heap := upd H p (.var (psA l s.pos))
theorem PsAt.self {H : Heap} {r : Nat} {l : List Tok} {s : RdS} (h : PsAt H r l s) : pset H r l s = H := upd_self h.at_
@[go_sem] theorem pset_hp {R : Heap} {lst : List (Nat × AObj)} {r : Nat} {l : List Tok} {s : RdS} : pset (hp R lst) r l s = hp R (setL r (.var (psA l s.pos)) lst) := upd_hp
theorem PsAt.len {H' : Heap} {r : Nat} {l : List Tok} {s : RdS} (h1 : l.length < 1073741824) (hs : s.pos ≤ l.length) (he : s.err = 0) (ha : H' r = some (.var (psA l s.pos))) : PsAt H' r l s := ⟨ha, h1, hs, he⟩
/-- Where a parser has given up, its own variable is let go. -/
theorem leH_gone {R R' : Heap} {p : Nat} {o : AObj} {l : List (Nat × AObj)} (h0 : LeH R R') (h : offR R [(p, o)] l) : LeH (del R p) (del (hp R' l) p) := by
 intro b x hb
 unfold del at hb ⊢
 split at hb
 ·cases hb
 ·rename_i hbp
  rw [if_neg hbp]
  cases hi : inK b l with
  | false => rw [hp_not hi]; exact h0 b x hb
  | true =>
   rcases offR_in h hi with h2 | h2
   ·exfalso
    rw [inK_cons, inK_nil] at h2
    cases he : eqn b p with
    | true => exact hbp (eqn_true he)
    | false => rw [he, cnd_false] at h2; cases h2
   ·rw [h2] at hb; cases hb
theorem leH_del1 (H : Heap) (p : Nat) : LeH (del H p) H := fun b o h => by unfold del at h; split at h; cases h; exact h
theorem gone {V : Env} {R R' : Heap} {p : Nat} {o : AObj} {l : List (Nat × AObj)} {KP : Heap → Prop} (h0 : LeH R R') (h : offR R [(p, o)] l) (hK : KP (del R p)) : panW V (hp R' l) KP := panW_drop ((leH_gone h0 h).trans (leH_del1 _ p)) (panW_is hK)
theorem gone2 {V : Env} {R R' : Heap} {p : Nat} {o : AObj} {l : List (Nat × AObj)} {KP : Heap → Prop} (h0 : LeH R R') (h : offR R [(p, o)] l) (hK : KP (del R p)) : panW V (del (hp R' l) p) KP := panW_drop (leH_gone h0 h) (panW_is hK)
/-- A reader's step as a call, where the heap holds B: what it hands back, or what it gives up with. -/
def One {α : Type} (eb : EbG) (B : Heap) (p : Nat) (l : List Tok) (g : FuncId) (args : List A) (enc : α → D) (q : RdS → α × RdS) : Prop :=
 ∀ (G : Heap) (s : RdS), LeH B G → PsAt G p l s → ∀ (K : A → Heap → Prop) (KP : Value → Heap → Prop), ((q s).2.err = 0 → K (.d (enc (q s).1)) (pset G p l (q s).2)) → ((q s).2.err ≠ 0 → KP (boxE eb (q s).2.err) (del G p)) → ACallP Tryd.prog (seatV eb) g args G K KP
theorem setMany_all {z : List A} {cs : List D} (h : z.length = cs.length) : setMany z 0 (cs.map A.d) = cs.map A.d := by simp [setMany, h]
attribute [go_sem] allD_map
@[go_sem] theorem smTm {t : Tm} {a1 a2 a3 a4 : A} : setMany [a1, a2, a3, a4] 0 (t.cs.map A.d) = t.cs.map A.d := setMany_all (by simp [t.cs_length])
@[go_sem] theorem tkTm {t : Tm} : (t.cs.map A.d).take 4 = t.cs.map A.d := List.take_of_length_le (by simp [t.cs_length])
@[go_sem] theorem smTy {t : Ty} {a1 a2 a3 : A} : setMany [a1, a2, a3] 0 (t.cs.map A.d) = t.cs.map A.d := setMany_all (by simp [t.cs_length])
@[go_sem] theorem tkTy {t : Ty} : (t.cs.map A.d).take 3 = t.cs.map A.d := List.take_of_length_le (by simp [t.cs_length])
@[go_sem] theorem smGl {t : Gl} {a1 a2 a3 a4 a5 a6 a7 a8 a9 a10 a11 a12 : A} : setMany [a1, a2, a3, a4, a5, a6, a7, a8, a9, a10, a11, a12] 0 (t.cs.map A.d) = t.cs.map A.d := setMany_all (by simp [t.cs_length])
@[go_sem] theorem tkGl {t : Gl} : (t.cs.map A.d).take 12 = t.cs.map A.d := List.take_of_length_le (by simp [t.cs_length])
def noH : Heap := fun _ => none
theorem leH_noH (H : Heap) : LeH noH H := fun _ _ h => by cases h
theorem give_ok {eb : EbG} (H : Heap) (a : A) (g : Nat) (K : A → Heap → Prop) (KP : Value → Heap → Prop) (hK : KP (boxV eb g) H) : ACallP Tryd.prog (seatV eb) 21 [a, .d (.sent g)] H K KP := by
 refine ACallP.by mixed fn21 (by simp) ?_
 conv in s21 => cbv
 refine svc_start ?_
 simp -dsimp only [go_sem, gS]
 exact panW_is hK
theorem peek_ok {eb : EbG} (H : Heap) (p : Nat) (l : List Tok) (s : RdS) (h : PsAt H p l s) (K : A → Heap → Prop) (hK : K (.d (rpeek l s.pos).d) H) : ACall Tryd.prog (seatV eb) 57 [.ref p 0] H K := by
 have hsh := h.short
 rw [← h.self] at hK
 refine ACall.hp_in h.at_ ?_
 refine ACall.by mixed fn57 (by simp) ?_
 conv in s57 => cbv
 refine svc_start ?_
 simp -dsimp only [go_sem, gS]
 refine newK_hp (fun b2 f2 => ?_)
 simp only [off_cons, off_nil] at f2
 simp -dsimp only [go_sem, gS, f2]
 refine gif_split (fun h1 => ?_) (fun h1 => ?_)
 ·have h1' : s.pos < l.length := by have := of_decide_eq_true h1; omega
  obtain ⟨t, ht⟩ : ∃ t, l[s.pos]? = some t := ⟨l[s.pos], by simp [h1']⟩
  rw [rpeek_some ht] at hK
  simp -dsimp only [go_sem, gS, f2, ht, h1', Tok.d, Tok.cs]
  refine retW_drop (G := hp H [(p, .var (psA l s.pos))]) (leH_hp (by simp only [hpS, eq_self, implies_true, f2]) (by simp only [hpS, eq_self, implies_true, f2])) (retW_is ?_)
  exact hK
 ·have h1' : l.length ≤ s.pos := by have := of_decide_eq_false h1; omega
  rw [rpeek_none h1'] at hK
  simp -dsimp only [go_sem, gS, f2]
  refine retW_drop (G := hp H [(p, .var (psA l s.pos))]) (leH_hp (by simp only [hpS, eq_self, implies_true, f2]) (by simp only [hpS, eq_self, implies_true, f2])) (retW_is ?_)
  exact hK
theorem ris_peek {l : List Tok} {t : ByteArray} {s : RdS} (he : s.err = 0) : ris l t s = (decide ((rpeek l s.pos).text = t) && (decide ((rpeek l s.pos).kind = 4) || decide ((rpeek l s.pos).kind = 1))) := by
 unfold ris rend rpeek
 rw [he]
 cases h : l[s.pos]? with
 | none =>
  have := List.getElem?_eq_none_iff.1 h
  simp [this]
 | some k =>
  have := (List.getElem?_eq_some_iff.1 h).1
  have h2 : ¬ l.length ≤ s.pos := by omega
  simp [h2, Bool.or_comm]
theorem stands_ok {eb : EbG} (H : Heap) (p : Nat) (l : List Tok) (s : RdS) (t : ByteArray) (h : PsAt H p l s) (K : A → Heap → Prop) (hK : K (.d (.bool (ris l t s))) H) : ACall Tryd.prog (seatV eb) 64 [.ref p 0, .d (.str t)] H K := by
 rw [ris_peek h.ok, ← h.self] at hK
 refine ACall.hp_in h.at_ ?_
 refine ACall.by mixed fn64 (by simp) ?_
 conv in s64 => cbv
 refine svc_start ?_
 simp -dsimp only [go_sem, gS]
 refine peek_ok _ p l s (.len h.short h.le h.ok (by simp only [hpS, eq_self, implies_true, h.short])) _ ?_
 generalize rpeek l s.pos = k at hK ⊢
 simp -dsimp only [go_sem, gS, Tok.d, Tok.cs]
 refine newK_hp (fun b5 f5 => ?_)
 simp only [off_cons, off_nil] at f5
 simp -dsimp only [go_sem, gS, f5]
 refine gif_split (fun h1 => ?_) (fun h1 => ?_)
 ·simp -dsimp only [go_sem, gS, f5, h1]
  refine gif_split (fun h2 => ?_) (fun h2 => ?_)
  ·simp -dsimp only [go_sem, gS, f5, h2]
   refine retW_drop (G := hp H [(p, .var (psA l s.pos))]) (leH_hp (by simp only [hpS, eq_self, implies_true, f5]) (by simp only [hpS, eq_self, implies_true, f5])) (retW_is ?_)
   have hK' : K _ (hp H [(p, .var (psA l s.pos))]) := hK
   simpa [h1, h2] using hK'
  ·simp -dsimp only [go_sem, gS, f5, h2]
   refine retW_drop (G := hp H [(p, .var (psA l s.pos))]) (leH_hp (by simp only [hpS, eq_self, implies_true, f5]) (by simp only [hpS, eq_self, implies_true, f5])) (retW_is ?_)
   have hK' : K _ (hp H [(p, .var (psA l s.pos))]) := hK
   simpa [h1, h2] using hK'
 ·simp -dsimp only [go_sem, gS, f5, h1]
  refine retW_drop (G := hp H [(p, .var (psA l s.pos))]) (leH_hp (by simp only [hpS, eq_self, implies_true, f5]) (by simp only [hpS, eq_self, implies_true, f5])) (retW_is ?_)
  have hK' : K _ (hp H [(p, .var (psA l s.pos))]) := hK
  simpa [h1] using hK'
theorem next_ok {eb : EbG} (H : Heap) (p : Nat) (l : List Tok) (s : RdS) (h : PsAt H p l s) (K : A → Heap → Prop) (hK : K (.d (rpeek l s.pos).d) (pset H p l ⟨s.pos + 1, 0⟩)) : ACall Tryd.prog (seatV eb) 67 [.ref p 0] H K := by
 have hsh := h.short
 have hle := h.le
 refine ACall.hp_in h.at_ ?_
 refine ACall.by mixed fn67 (by simp) ?_
 conv in s67 => cbv
 refine svc_start ?_
 simp -dsimp only [go_sem, gS]
 refine newK_hp (fun b2 f2 => ?_)
 simp only [off_cons, off_nil] at f2
 simp -dsimp only [go_sem, gS, f2]
 refine peek_ok _ p l s (.len h.short h.le h.ok (by simp only [hpS, eq_self, implies_true, f2])) _ ?_
 have e := wrapN (k := s.pos) (by omega)
 generalize rpeek l s.pos = k at hK ⊢
 simp -dsimp only [go_sem, gS, Tok.d, Tok.cs, f2]
 refine newK_hp (fun b3 f3 => ?_)
 simp only [off_cons, off_nil] at f3
 simp -dsimp only [go_sem, gS, f2, f3, e]
 refine retW_drop (G := hp H [(p, .var (psA l (s.pos + 1)))]) (leH_hp (by simp only [hpS, eq_self, implies_true, f2, f3]) (by simp only [hpS, eq_self, implies_true, f2, f3])) (retW_is ?_)
 exact hK
theorem rgot_is {l : List Tok} {t : ByteArray} {s : RdS} (h : ris l t s = true) : rgot l t s = (true, ⟨s.pos + 1, s.err⟩) := by rw [rgot, if_pos h]
theorem rgot_no {l : List Tok} {t : ByteArray} {s : RdS} (h : ris l t s = false) : rgot l t s = (false, s) := by rw [rgot, if_neg (by simp [h])]
theorem accept_ok {eb : EbG} (H : Heap) (p : Nat) (l : List Tok) (s : RdS) (t : ByteArray) (h : PsAt H p l s) (K : A → Heap → Prop) (hK : K (.d (.bool (rgot l t s).1)) (pset H p l (rgot l t s).2)) : ACall Tryd.prog (seatV eb) 36 [.ref p 0, .d (.str t)] H K := by
 have hsh := h.short
 have hle := h.le
 have hp := h.at_
 refine ACall.by mixed fn36 (by simp) ?_
 conv in s36 => cbv
 refine svc_start ?_
 simp -dsimp only [go_sem, gS]
 refine stands_ok _ p l s t h _ ?_
 cases hi : ris l t s with
 | true =>
  rw [rgot_is hi] at hK
  have e := wrapN (k := s.pos) (by omega)
  simp -dsimp only [go_sem, gS, hp, e]
  refine retW_is ?_
  exact hK
 | false =>
  rw [rgot_no hi, h.self] at hK
  simp -dsimp only [go_sem, gS]
  exact retW_is hK
theorem must_ok {eb : EbG} [On eb 2] (H : Heap) (p : Nat) (l : List Tok) (s : RdS) (t : ByteArray) (h : PsAt H p l s) (K : A → Heap → Prop) (KP : Value → Heap → Prop)
  (hK : (rneed l t s).err = 0 → K (.tup []) (pset H p l (rneed l t s))) (hP : (rneed l t s).err ≠ 0 → KP (boxE eb (rneed l t s).err) (del H p)) : ACallP Tryd.prog (seatV eb) 23 [.ref p 0, .d (.str t)] H K KP := by
 refine ACallP.by mixed fn23 (by simp) ?_
 conv in s23 => cbv
 refine svc_start ?_
 simp -dsimp only [go_sem, gS]
 refine accept_ok _ p l s t h _ ?_
 have he := h.ok
 cases hi : (rgot l t s).1 with
 | true =>
  have e : rneed l t s = (rgot l t s).2 := by rw [rneed, if_pos he, if_pos hi]
  rw [e] at hK
  simp -dsimp only [go_sem, gS]
  exact retW_is (hK (by rw [rgot_err]; exact he))
 | false =>
  have e2 := rgot_false hi
  have e : rneed l t s = ⟨s.pos, 2⟩ := by rw [rneed, if_pos he, if_neg (by simp [hi]), e2, rfail, if_pos he]
  rw [e] at hP
  rw [e2, h.self]
  simp -dsimp only [go_sem, gS, seatV_on inferInstance]
  refine give_ok _ _ _ _ _ ?_
  simp -dsimp only [go_sem, gS]
  exact panW_drop (leH_del1 H p) (panW_is (hP (by simp only; omega)))
theorem reservedP_ok {eb : EbG} (H : Heap) (s : ByteArray) (K : A → Heap → Prop) (hK : K (.d (.bool (isReserved s))) H) : ACall Tryd.prog (seatV eb) 65 [.d (.str s)] H K := by
 refine ACall.by mixed fn65 (by simp) ?_
 conv in s65 => cbv
 refine svc_start ?_
 simp -dsimp only [go_sem, gS]
 repeat' (first | (refine gif_split (fun h => ?_) (fun h => ?_) <;> (try simp -dsimp only [go_sem, gS, *])) | (refine newV_intro (fun b v hb hn hm hv => ?_); (try simp -dsimp only [go_sem, gS, *])) | (refine newK_intro (fun b hb hn hm => ?_); (try simp -dsimp only [go_sem, gS, *])) | (refine growV_intro (fun b v hb hn hm hv => ?_); (try simp -dsimp only [go_sem, gS, *])) | (refine andK_split (by omega) ?_; (try simp -dsimp only [go_sem, gS, *])) | (refine nilQ_intro ?_ (fun h => ?_) <;> (try simp -dsimp only [go_sem, gS, *])) | (refine And.intro ?_ ?_ <;> (try simp -dsimp only [go_sem, gS, *])) | (refine (fun (v : Value) (hv : v.ownBlock = some _) => ?_); (try simp -dsimp only [go_sem, gS, *])))
 all_goals refine retW_is ?_
 all_goals
  have hb : ∀ b, isReserved s = b → K (.d (.bool b)) H := fun b h => h ▸ hK
  refine hb _ ?_
  simp only [decide_eq_true_eq, decide_eq_false_iff_not] at *
  simp [isReserved, reserved, eq_comm (b := s), *]
theorem rword_peek {l : List Tok} {kind : Int} {s : RdS} (he : s.err = 0) (hk : kind ≠ 0) : rword l kind s = if (rpeek l s.pos).kind = kind ∧ ¬ (kind = 1 ∧ isReserved (rpeek l s.pos).text = true) then ((rpeek l s.pos).text, ⟨s.pos + 1, 0⟩) else (⟨#[]⟩, ⟨s.pos, 2⟩) := by
 unfold rword rend rpeek rfail
 rw [he]
 cases h : l[s.pos]? with
 | none =>
  have := List.getElem?_eq_none_iff.1 h
  simp [this]
  exact fun e => absurd e.symm hk
 | some k =>
  have := (List.getElem?_eq_some_iff.1 h).1
  have h2 : ¬ l.length ≤ s.pos := by omega
  simp only [h2, decide_false, Bool.or_false, Bool.not_true, decide_true, Bool.false_eq_true, if_false, if_true]
  by_cases h3 : k.kind = kind <;> by_cases h4 : kind = 1 ∧ isReserved k.text = true <;> simp [h3, h4]
theorem name_ok {eb : EbG} [On eb 2] (p : Nat) (l : List Tok) : One eb noH p l 37 [.ref p 0] D.str (rword l 1) := by
 intro H s _ h K KP hK hP
 have hsh := h.short
 have hle := h.le
 rw [rword_peek h.ok (by decide)] at hK hP
 refine ACallP.hp_in h.at_ ?_
 refine ACallP.by mixed fn37 (by simp) ?_
 conv in s37 => cbv
 refine svc_start ?_
 simp -dsimp only [go_sem, gS]
 refine peek_ok _ p l s (.len h.short h.le h.ok (by simp only [hpS, eq_self, implies_true, h.short])) _ ?_
 have e := wrapN (k := s.pos) (by omega)
 generalize rpeek l s.pos = k at hK hP ⊢
 simp -dsimp only [go_sem, gS, Tok.d, Tok.cs]
 refine newK_hp (fun b3 f3 => ?_)
 simp only [off_cons, off_nil] at f3
 simp -dsimp only [go_sem, gS, f3]
 have bad : ¬ (k.kind = 1 ∧ ¬ ((1 : Int) = 1 ∧ isReserved k.text = true)) → panW (seatV eb) (hp H [(p, .var (psA l s.pos)), (b3, .var [.d (.int .i64 k.kind), .d (.str k.text), .d (.int .i64 k.int)])]) (KP (boxV eb (errG 2))) := fun hn => by
  rw [if_neg hn] at hP
  exact gone (o := .var (psA l s.pos)) (.refl _) (by simp only [hpS, eq_self, implies_true, f3]) (hP (by simp only; omega))
 refine gif_split (fun h1 => ?_) (fun h1 => ?_)
 ·simp -dsimp only [go_sem, gS, f3, h1, seatV_on inferInstance]
  refine give_ok _ _ _ _ _ ?_
  simp -dsimp only [go_sem, gS]
  exact bad (by simp at h1; simp [h1])
 ·simp -dsimp only [go_sem, gS, f3, h1]
  refine reservedP_ok _ _ _ ?_
  cases h2 : isReserved k.text with
  | true =>
   simp -dsimp only [go_sem, gS, f3, seatV_on inferInstance]
   refine give_ok _ _ _ _ _ ?_
   simp -dsimp only [go_sem, gS]
   exact bad (by simp [h2])
  | false =>
   have hk : k.kind = 1 ∧ ¬ ((1 : Int) = 1 ∧ isReserved k.text = true) := by simp at h1; simp [h1, h2]
   rw [if_pos hk] at hK
   simp -dsimp only [go_sem, gS, f3, e]
   refine retW_drop (G := hp H [(p, .var (psA l (s.pos + 1)))]) (leH_hp (by simp only [hpS, eq_self, implies_true, f3]) (by simp only [hpS, eq_self, implies_true, f3])) (retW_is (hK rfl))
theorem variable_ok {eb : EbG} [On eb 2] (p : Nat) (l : List Tok) : One eb noH p l 39 [.ref p 0] D.str (rword l 2) := by
 intro H s _ h K KP hK hP
 have hsh := h.short
 have hle := h.le
 rw [rword_peek h.ok (by decide)] at hK hP
 refine ACallP.hp_in h.at_ ?_
 refine ACallP.by mixed fn39 (by simp) ?_
 conv in s39 => cbv
 refine svc_start ?_
 simp -dsimp only [go_sem, gS]
 refine peek_ok _ p l s (.len h.short h.le h.ok (by simp only [hpS, eq_self, implies_true, h.short])) _ ?_
 have e := wrapN (k := s.pos) (by omega)
 generalize rpeek l s.pos = k at hK hP ⊢
 simp -dsimp only [go_sem, gS, Tok.d, Tok.cs]
 refine newK_hp (fun b3 f3 => ?_)
 simp only [off_cons, off_nil] at f3
 simp -dsimp only [go_sem, gS, f3]
 refine gif_split (fun h1 => ?_) (fun h1 => ?_)
 ·simp -dsimp only [go_sem, gS, f3, h1, seatV_on inferInstance]
  refine give_ok _ _ _ _ _ ?_
  simp -dsimp only [go_sem, gS]
  rw [if_neg (by simp at h1; simp [h1])] at hP
  exact gone (o := .var (psA l s.pos)) (.refl _) (by simp only [hpS, eq_self, implies_true, f3]) (hP (by simp only; omega))
 ·have hk : k.kind = 2 ∧ ¬ ((2 : Int) = 1 ∧ isReserved k.text = true) := by simp at h1; simp [h1]
  rw [if_pos hk] at hK
  simp -dsimp only [go_sem, gS, f3, h1, e]
  refine retW_drop (G := hp H [(p, .var (psA l (s.pos + 1)))]) (leH_hp (by simp only [hpS, eq_self, implies_true, f3]) (by simp only [hpS, eq_self, implies_true, f3])) (retW_is (hK rfl))
theorem deeper_ok {eb : EbG} [On eb 0] (H : Heap) (p : Nat) (l : List Tok) (s : RdS) (n : Nat) (hps : PsAt H p l s) (K : A → Heap → Prop) (KP : Value → Heap → Prop)
  (hK : (rnest l n s).err = 0 → K (.tup []) (pset H p l (rnest l n s))) (hP : (rnest l n s).err ≠ 0 → KP (boxE eb (rnest l n s).err) (del H p)) : ACallP Tryd.prog (seatV eb) 56 [.ref p 0, .d (.int .i64 n)] H K KP := by
 have hsh := hps.short
 have hp := hps.at_
 rw [rnest_is hps.ok] at hK hP
 refine ACallP.by mixed fn56 (by simp) ?_
 conv in s56 => cbv
 refine svc_start ?_
 simp -dsimp only [go_sem, gS]
 have hs := hps.self
 have ok := hps.ok
 repeat' (first | (refine gif_split (fun h => ?_) (fun h => ?_) <;> (try simp -dsimp only [go_sem, gS, *, hp])) | (refine newV_intro (fun b v hb hn hm hv => ?_); (try simp -dsimp only [go_sem, gS, *, hp])) | (refine newK_intro (fun b hb hn hm => ?_); (try simp -dsimp only [go_sem, gS, *, hp])) | (refine growV_intro (fun b v hb hn hm hv => ?_); (try simp -dsimp only [go_sem, gS, *, hp])) | (refine andK_split (by omega) ?_; (try simp -dsimp only [go_sem, gS, *, hp])) | (refine nilQ_intro ?_ (fun h => ?_) <;> (try simp -dsimp only [go_sem, gS, *, hp])) | (refine And.intro ?_ ?_ <;> (try simp -dsimp only [go_sem, gS, *, hp])) | (refine (fun (v : Value) (hv : v.ownBlock = some _) => ?_); (try simp -dsimp only [go_sem, gS, *, hp])))
 ·rename_i h1
  have h1' := of_decide_eq_true h1
  have h2' := of_decide_eq_true h
  rw [if_pos ⟨by omega, by omega⟩] at hP
  simp -dsimp only [go_sem, gS, seatV_on inferInstance]
  refine give_ok _ _ _ _ _ ?_
  simp -dsimp only [go_sem, gS]
  exact panW_drop (leH_del1 H p) (panW_is (hP (by simp only; omega)))
 ·have h2' := of_decide_eq_false h
  rw [if_neg (by omega), hs] at hK
  exact retW_is (hK ok)
 ·have h1' := of_decide_eq_false h
  rw [if_neg (by omega), hs] at hK
  exact retW_is (hK ok)
end Go.Aug

/- The program's parser: rows. -/
namespace Go.Aug
open Go.Proofs
set_option maxRecDepth 100000
set_option linter.unusedSimpArgs false
attribute [local irreducible] hid andK letA onSome onVar onArr arrOnly onInt onBool onTup idxA ldV ldD addO ofPart appTo fillL slA srcK nilQ retW gif sgd sguard svc sops sdops sagain aopO aLoad aStore aBin aUn aConv aLen aIndexAddr aIndex aIndexAddrS aIndexS aSlice aAppend aBuild aBuildSlice aMakeSlice aField aFieldOf aCallOp deepK deepL frzM putE newK newV growV ACall roundQ thenQ inBlockQ sret cnd szs nilC aLookup aMapUpdate aMakeMap
attribute [local go_sem] Int.natCast_zero
set_option maxHeartbeats 2000000 in
theorem rowTm_ok {eb : EbG} [On eb 2] [On eb 1] (B H : Heap) (p : Nat) (l : List Tok) (s : RdS) (g : FuncId) (caps : List A) (q : RdS → Tm × RdS) (h : PsAt H p l s) (hB : LeH B H) (hBp : B p = none)
  (hq : Steps l q) (hend : ∀ s, rend l s = true → (q s).2.err ≠ 0) (hcl : callable Tryd.prog g = true) (hpan : (seatV eb).pan g = true)
  (hone : One eb B p l g caps Tm.d q)
  (K : A → Heap → Prop) (KP : Value → Heap → Prop) (hK : (rargs q l 10 [] s).2.err = 0 → K (.d (.slice ((rargs q l 10 [] s).1.map Tm.d))) (pset H p l (rargs q l 10 [] s).2)) (hP : (rargs q l 10 [] s).2.err ≠ 0 → KP (boxE eb (rargs q l 10 [] s).2.err) (del H p)) :
  ACallP Tryd.prog (seatV eb) 47 [.ref p 0, .func g caps] H K KP := by
 rw [rargs_open h.ok] at hK hP
 refine ACallP.by mixed fn47 (by simp) ?_
 conv in s47 => cbv
 refine svc_start ?_
 simp -dsimp only [go_sem, gS]
 refine accept_ok _ p l s _ h _ ?_
 have he := h.ok
 have hsh := h.short
 cases hg : (rgot l ⟨#[40]⟩ s).1 with
 | false =>
  rw [rgot_false hg, h.self]
  rw [hg] at hK
  simp only [Bool.false_eq_true, if_false, h.self] at hK
  simp -dsimp only [go_sem, gS]
  refine retW_deep ?_
  simp -dsimp only [go_sem, gS]
  exact retW_is (hK he)
 | true =>
  simp only [hg, if_true] at hK hP
  have hle1 := rgot_le (t := ⟨#[40]⟩) h.le
  have her : (rgot l ⟨#[40]⟩ s).2.err = 0 := by rw [rgot_err]; exact he
  generalize (rgot l ⟨#[40]⟩ s).2 = s1 at hK hP hle1 her ⊢
  generalize hres : rowHd q l 9 [] s1 = res at hK hP
  simp -dsimp only [go_sem, gS]
  refine svc_loop (X := PRow Tm) (fun x => [(0, .ref p 0), (1, .func g caps), (5, x.a)])
   (fun x G => G = hp x.R [(p, .var (psA l x.s.pos))] ∧ Acc H [p] 40 4 (x.xs.map Tm.d) x.a x.R ∧ rowHd q l x.k x.xs x.s = res ∧ x.s.err = 0 ∧ x.s.pos ≤ l.length ∧ x.k + x.xs.length = 9 ∧ 1 ≤ x.k)
   (fun x => x.k) ⟨9, [], s1, .nils, H⟩ _ ⟨rfl, Acc.nils .., hres, her, hle1, rfl, by simp only; omega⟩ (by simp -dsimp only [go_sem, gS]) (.refl _) ?_
  rintro ⟨k, xs, s2, a, R⟩ G ⟨rfl, hacc, hrun, he2, hle2, hk, hk1⟩
  simp only at hacc hrun he2 hle2 hk hk1
  have hok : okK [p] R [(p, .var (psA l s2.pos))] := by simp only [hpS, eq_self, implies_true, hsh]
  simp -dsimp only [go_sem, gS]
  refine andK_split (hacc.lenable (by simp -dsimp only [go_sem, gS])) ?_
  rw [hacc.len hok]
  simp -dsimp only [go_sem, gS]
  have hBG : LeH B (hp R [(p, .var (psA l s2.pos))]) := leH_hp02 (hB.trans hacc.le) (by simp only [hpS, eq_self, implies_true, hBp])
  have hdel : ∀ n, LeH (del H p) (del (hp R [(p, .var (psA l n))]) p) := fun n => leH_gone (o := .var (psA l n)) hacc.le (by simp only [hpS, eq_self, implies_true, hBp])
  refine gif_split (fun h1 => ?_) (fun h1 => ?_)
  ·have h1' : xs.length = 8 := by have := of_decide_eq_true h1; omega
   simp -dsimp only [go_sem, gS, h1]
   refine gif_split (fun h2 => ?_) (fun h2 => ?_)
   ·have h2' : s2.pos < l.length := by have := of_decide_eq_true h2; omega
    rw [rowHd_bad he2 h1' h2'] at hrun
    rw [← hrun] at hP
    simp -dsimp only [go_sem, gS, seatV_on inferInstance]
    refine give_ok _ _ _ _ _ ?_
    simp -dsimp only [go_sem, gS]
    exact panW_drop ((hdel _).trans (leH_del1 _ p)) (panW_is (hP (by simp only; omega)))
   ·have h2' : ¬ s2.pos < l.length := by have := of_decide_eq_false h2; omega
    rw [rowHd_go he2 (fun h => h2' h.2)] at hrun
    have hbad := hend s2 (by rw [rend_eq he2]; simp; omega)
    rw [rargs_stop hbad] at hrun
    rw [← hrun] at hP
    simp -dsimp only [go_sem, gS, h2, hcl, hpan]
    refine hone _ s2 hBG (.len hsh hle2 he2 (by simp only [hpS, eq_self, implies_true, hsh])) _ _ (fun h => absurd h hbad) (fun _ => ?_)
    simp -dsimp only [go_sem, gS]
    exact panW_drop (hdel _) (panW_is (hP hbad))
  ·have h1' : ¬ xs.length = 8 := by have := of_decide_eq_false h1; omega
   rw [rowHd_go he2 (fun h => h1' h.1)] at hrun
   simp -dsimp only [go_sem, gS, h1, hcl, hpan]
   refine hone _ s2 hBG (.len hsh hle2 he2 (by simp only [hpS, eq_self, implies_true, hsh])) _ _ (fun h3 => ?_) (fun h3 => ?_)
   ·have hle3 := hq.le s2 hle2
    have hcs := (q s2).1.cs_length
    generalize (q s2).1 = t at hrun hcs ⊢
    generalize (q s2).2 = s3 at hrun hle3 h3 ⊢
    obtain ⟨k, rfl⟩ : ∃ j, k = j + 1 := ⟨k - 1, by omega⟩
    simp -dsimp only [go_sem, gS, hcs, Tm.d]
    refine newV_hp (fun b6 v6 f6 w6 => ?_)
    simp only [off_cons, off_nil] at f6
    simp -dsimp only [go_sem, gS, f6, hcs, Tm.d]
    refine hacc.appTo (by simp only [hpS, eq_self, implies_true, f6]) (by simp only [hpS, eq_self, implies_true, hsh]) (by simp only [List.length_map, List.length_cons, List.length_nil]; omega) (fun a' R' hacc' hn => ?_)
    have hone' := hacc'.one
    have f60 := hacc.le.free f6.2.2
    have f6' := hn b6 (by simp only [hpS, eq_self, implies_true, f6]) f6.2.2
    rw [show xs.map Tm.d ++ [D.agg t.cs] = (xs ++ [t]).map Tm.d by simp [Tm.d]] at hacc'
    have hne : xs ++ [t] ≠ [] := by simp
    simp -dsimp only [go_sem, gS, f6, hone']
    refine accept_ok _ p l s3 _ (.len hsh hle3 h3 (by simp only [hpS, eq_self, implies_true, f6])) _ ?_
    cases hg3 : (rgot l ⟨#[41]⟩ s3).1 with
    | true =>
     rw [rargs_close h3 hne hg3] at hrun
     rw [← hrun] at hK
     have her4 : (rgot l ⟨#[41]⟩ s3).2.err = 0 := by rw [rgot_err]; exact h3
     simp -dsimp only [go_sem, gS, f6]
     refine retW_deep ?_
     refine hacc'.deep (by simp only [hpS, eq_self, implies_true, f6']) (fun R'' hle'' hn'' => ?_)
     refine retW_drop (G := hp H [(p, .var (psA l (rgot l ⟨#[41]⟩ s3).2.pos))]) (leH_hp2 hle'' (by simp only [hpS, eq_self, implies_true, f6]) (by simp only [hpS, eq_self, implies_true, f60])) (retW_is (hK her4))
    | false =>
     rw [rargs_comma h3 hne hg3] at hrun
     rw [rgot_false hg3]
     simp -dsimp only [go_sem, gS, f6]
     refine must_ok _ p l s3 _ (.len hsh hle3 h3 (by simp only [hpS, eq_self, implies_true, f6])) _ _ (fun h4 => ?_) (fun h4 => ?_)
     ·rw [if_pos h4] at hrun
      have hle4 := rneed_le (t := ⟨#[44]⟩) hle3
      simp -dsimp only [go_sem, gS, f6]
      refine roundQ_next ⟨k, xs ++ [t], rneed l ⟨#[44]⟩ s3, a', R'⟩ _ ⟨rfl, hacc', hrun, h4, hle4, by simp; omega, by simp only; omega⟩ (Nat.lt_succ_self k) (by simp -dsimp only [go_sem, gS]) (leH_hp (by simp only [hpS, eq_self, implies_true, f6, f6']) (by simp only [hpS, eq_self, implies_true, f6, f6']))
     ·rw [if_neg h4] at hrun
      rw [← hrun] at hP
      simp -dsimp only [go_sem, gS]
      refine panW_drop (leH_gone (o := .var (psA l s3.pos)) hacc'.le (by simp only [hpS, eq_self, implies_true, f6, f60])) (panW_is (hP h4))
   ·rw [rargs_stop h3] at hrun
    rw [← hrun] at hP
    simp -dsimp only [go_sem, gS]
    exact panW_drop (hdel _) (panW_is (hP h3))
set_option maxHeartbeats 2000000 in
theorem rowTy_ok {eb : EbG} [On eb 2] [On eb 1] (B H : Heap) (p : Nat) (l : List Tok) (s : RdS) (g : FuncId) (caps : List A) (q : RdS → Ty × RdS) (h : PsAt H p l s) (hB : LeH B H) (hBp : B p = none)
  (hq : Steps l q) (hend : ∀ s, rend l s = true → (q s).2.err ≠ 0) (hcl : callable Tryd.prog g = true) (hpan : (seatV eb).pan g = true)
  (hone : One eb B p l g caps Ty.d q)
  (K : A → Heap → Prop) (KP : Value → Heap → Prop) (hK : (rargs q l 10 [] s).2.err = 0 → K (.d (.slice ((rargs q l 10 [] s).1.map Ty.d))) (pset H p l (rargs q l 10 [] s).2)) (hP : (rargs q l 10 [] s).2.err ≠ 0 → KP (boxE eb (rargs q l 10 [] s).2.err) (del H p)) :
  ACallP Tryd.prog (seatV eb) 41 [.ref p 0, .func g caps] H K KP := by
 rw [rargs_open h.ok] at hK hP
 refine ACallP.by mixed fn41 (by simp) ?_
 conv in s41 => cbv
 refine svc_start ?_
 simp -dsimp only [go_sem, gS]
 refine accept_ok _ p l s _ h _ ?_
 have he := h.ok
 have hsh := h.short
 cases hg : (rgot l ⟨#[40]⟩ s).1 with
 | false =>
  rw [rgot_false hg, h.self]
  rw [hg] at hK
  simp only [Bool.false_eq_true, if_false, h.self] at hK
  simp -dsimp only [go_sem, gS]
  refine retW_deep ?_
  simp -dsimp only [go_sem, gS]
  exact retW_is (hK he)
 | true =>
  simp only [hg, if_true] at hK hP
  have hle1 := rgot_le (t := ⟨#[40]⟩) h.le
  have her : (rgot l ⟨#[40]⟩ s).2.err = 0 := by rw [rgot_err]; exact he
  generalize (rgot l ⟨#[40]⟩ s).2 = s1 at hK hP hle1 her ⊢
  generalize hres : rowHd q l 9 [] s1 = res at hK hP
  simp -dsimp only [go_sem, gS]
  refine svc_loop (X := PRow Ty) (fun x => [(0, .ref p 0), (1, .func g caps), (5, x.a)])
   (fun x G => G = hp x.R [(p, .var (psA l x.s.pos))] ∧ Acc H [p] 91 3 (x.xs.map Ty.d) x.a x.R ∧ rowHd q l x.k x.xs x.s = res ∧ x.s.err = 0 ∧ x.s.pos ≤ l.length ∧ x.k + x.xs.length = 9 ∧ 1 ≤ x.k)
   (fun x => x.k) ⟨9, [], s1, .nils, H⟩ _ ⟨rfl, Acc.nils .., hres, her, hle1, rfl, by simp only; omega⟩ (by simp -dsimp only [go_sem, gS]) (.refl _) ?_
  rintro ⟨k, xs, s2, a, R⟩ G ⟨rfl, hacc, hrun, he2, hle2, hk, hk1⟩
  simp only at hacc hrun he2 hle2 hk hk1
  have hok : okK [p] R [(p, .var (psA l s2.pos))] := by simp only [hpS, eq_self, implies_true, hsh]
  simp -dsimp only [go_sem, gS]
  refine andK_split (hacc.lenable (by simp -dsimp only [go_sem, gS])) ?_
  rw [hacc.len hok]
  simp -dsimp only [go_sem, gS]
  have hBG : LeH B (hp R [(p, .var (psA l s2.pos))]) := leH_hp02 (hB.trans hacc.le) (by simp only [hpS, eq_self, implies_true, hBp])
  have hdel : ∀ n, LeH (del H p) (del (hp R [(p, .var (psA l n))]) p) := fun n => leH_gone (o := .var (psA l n)) hacc.le (by simp only [hpS, eq_self, implies_true, hBp])
  refine gif_split (fun h1 => ?_) (fun h1 => ?_)
  ·have h1' : xs.length = 8 := by have := of_decide_eq_true h1; omega
   simp -dsimp only [go_sem, gS, h1]
   refine gif_split (fun h2 => ?_) (fun h2 => ?_)
   ·have h2' : s2.pos < l.length := by have := of_decide_eq_true h2; omega
    rw [rowHd_bad he2 h1' h2'] at hrun
    rw [← hrun] at hP
    simp -dsimp only [go_sem, gS, seatV_on inferInstance]
    refine give_ok _ _ _ _ _ ?_
    simp -dsimp only [go_sem, gS]
    exact panW_drop ((hdel _).trans (leH_del1 _ p)) (panW_is (hP (by simp only; omega)))
   ·have h2' : ¬ s2.pos < l.length := by have := of_decide_eq_false h2; omega
    rw [rowHd_go he2 (fun h => h2' h.2)] at hrun
    have hbad := hend s2 (by rw [rend_eq he2]; simp; omega)
    rw [rargs_stop hbad] at hrun
    rw [← hrun] at hP
    simp -dsimp only [go_sem, gS, h2, hcl, hpan]
    refine hone _ s2 hBG (.len hsh hle2 he2 (by simp only [hpS, eq_self, implies_true, hsh])) _ _ (fun h => absurd h hbad) (fun _ => ?_)
    simp -dsimp only [go_sem, gS]
    exact panW_drop (hdel _) (panW_is (hP hbad))
  ·have h1' : ¬ xs.length = 8 := by have := of_decide_eq_false h1; omega
   rw [rowHd_go he2 (fun h => h1' h.1)] at hrun
   simp -dsimp only [go_sem, gS, h1, hcl, hpan]
   refine hone _ s2 hBG (.len hsh hle2 he2 (by simp only [hpS, eq_self, implies_true, hsh])) _ _ (fun h3 => ?_) (fun h3 => ?_)
   ·have hle3 := hq.le s2 hle2
    have hcs := (q s2).1.cs_length
    generalize (q s2).1 = t at hrun hcs ⊢
    generalize (q s2).2 = s3 at hrun hle3 h3 ⊢
    obtain ⟨k, rfl⟩ : ∃ j, k = j + 1 := ⟨k - 1, by omega⟩
    simp -dsimp only [go_sem, gS, hcs, Ty.d]
    refine newV_hp (fun b6 v6 f6 w6 => ?_)
    simp only [off_cons, off_nil] at f6
    simp -dsimp only [go_sem, gS, f6, hcs, Ty.d]
    refine hacc.appTo (by simp only [hpS, eq_self, implies_true, f6]) (by simp only [hpS, eq_self, implies_true, hsh]) (by simp only [List.length_map, List.length_cons, List.length_nil]; omega) (fun a' R' hacc' hn => ?_)
    have hone' := hacc'.one
    have f60 := hacc.le.free f6.2.2
    have f6' := hn b6 (by simp only [hpS, eq_self, implies_true, f6]) f6.2.2
    rw [show xs.map Ty.d ++ [D.agg t.cs] = (xs ++ [t]).map Ty.d by simp [Ty.d]] at hacc'
    have hne : xs ++ [t] ≠ [] := by simp
    simp -dsimp only [go_sem, gS, f6, hone']
    refine accept_ok _ p l s3 _ (.len hsh hle3 h3 (by simp only [hpS, eq_self, implies_true, f6])) _ ?_
    cases hg3 : (rgot l ⟨#[41]⟩ s3).1 with
    | true =>
     rw [rargs_close h3 hne hg3] at hrun
     rw [← hrun] at hK
     have her4 : (rgot l ⟨#[41]⟩ s3).2.err = 0 := by rw [rgot_err]; exact h3
     simp -dsimp only [go_sem, gS, f6]
     refine retW_deep ?_
     refine hacc'.deep (by simp only [hpS, eq_self, implies_true, f6']) (fun R'' hle'' hn'' => ?_)
     refine retW_drop (G := hp H [(p, .var (psA l (rgot l ⟨#[41]⟩ s3).2.pos))]) (leH_hp2 hle'' (by simp only [hpS, eq_self, implies_true, f6]) (by simp only [hpS, eq_self, implies_true, f60])) (retW_is (hK her4))
    | false =>
     rw [rargs_comma h3 hne hg3] at hrun
     rw [rgot_false hg3]
     simp -dsimp only [go_sem, gS, f6]
     refine must_ok _ p l s3 _ (.len hsh hle3 h3 (by simp only [hpS, eq_self, implies_true, f6])) _ _ (fun h4 => ?_) (fun h4 => ?_)
     ·rw [if_pos h4] at hrun
      have hle4 := rneed_le (t := ⟨#[44]⟩) hle3
      simp -dsimp only [go_sem, gS, f6]
      refine roundQ_next ⟨k, xs ++ [t], rneed l ⟨#[44]⟩ s3, a', R'⟩ _ ⟨rfl, hacc', hrun, h4, hle4, by simp; omega, by simp only; omega⟩ (Nat.lt_succ_self k) (by simp -dsimp only [go_sem, gS]) (leH_hp (by simp only [hpS, eq_self, implies_true, f6, f6']) (by simp only [hpS, eq_self, implies_true, f6, f6']))
     ·rw [if_neg h4] at hrun
      rw [← hrun] at hP
      simp -dsimp only [go_sem, gS]
      refine panW_drop (leH_gone (o := .var (psA l s3.pos)) hacc'.le (by simp only [hpS, eq_self, implies_true, f6, f60])) (panW_is (hP h4))
   ·rw [rargs_stop h3] at hrun
    rw [← hrun] at hP
    simp -dsimp only [go_sem, gS]
    exact panW_drop (hdel _) (panW_is (hP h3))
set_option maxHeartbeats 2000000 in
theorem rowStr_ok {eb : EbG} [On eb 2] [On eb 1] (B H : Heap) (p : Nat) (l : List Tok) (s : RdS) (g : FuncId) (caps : List A) (q : RdS → ByteArray × RdS) (h : PsAt H p l s) (hB : LeH B H) (hBp : B p = none)
  (hq : Steps l q) (hend : ∀ s, rend l s = true → (q s).2.err ≠ 0) (hcl : callable Tryd.prog g = true) (hpan : (seatV eb).pan g = true)
  (hone : One eb B p l g caps D.str q)
  (K : A → Heap → Prop) (KP : Value → Heap → Prop) (hK : (rargs q l 10 [] s).2.err = 0 → K (.d (.slice ((rargs q l 10 [] s).1.map D.str))) (pset H p l (rargs q l 10 [] s).2)) (hP : (rargs q l 10 [] s).2.err ≠ 0 → KP (boxE eb (rargs q l 10 [] s).2.err) (del H p)) :
  ACallP Tryd.prog (seatV eb) 38 [.ref p 0, .meth g caps] H K KP := by
 rw [rargs_open h.ok] at hK hP
 refine ACallP.by mixed fn38 (by simp) ?_
 conv in s38 => cbv
 refine svc_start ?_
 simp -dsimp only [go_sem, gS]
 refine accept_ok _ p l s _ h _ ?_
 have he := h.ok
 have hsh := h.short
 cases hg : (rgot l ⟨#[40]⟩ s).1 with
 | false =>
  rw [rgot_false hg, h.self]
  rw [hg] at hK
  simp only [Bool.false_eq_true, if_false, h.self] at hK
  simp -dsimp only [go_sem, gS]
  refine retW_deep ?_
  simp -dsimp only [go_sem, gS]
  exact retW_is (hK he)
 | true =>
  simp only [hg, if_true] at hK hP
  have hle1 := rgot_le (t := ⟨#[40]⟩) h.le
  have her : (rgot l ⟨#[40]⟩ s).2.err = 0 := by rw [rgot_err]; exact he
  generalize (rgot l ⟨#[40]⟩ s).2 = s1 at hK hP hle1 her ⊢
  generalize hres : rowHd q l 9 [] s1 = res at hK hP
  simp -dsimp only [go_sem, gS]
  refine svc_loop (X := PRow ByteArray) (fun x => [(0, .ref p 0), (1, .meth g caps), (5, x.a)])
   (fun x G => G = hp x.R [(p, .var (psA l x.s.pos))] ∧ Acc H [p] 9 1 (x.xs.map D.str) x.a x.R ∧ rowHd q l x.k x.xs x.s = res ∧ x.s.err = 0 ∧ x.s.pos ≤ l.length ∧ x.k + x.xs.length = 9 ∧ 1 ≤ x.k)
   (fun x => x.k) ⟨9, [], s1, .nils, H⟩ _ ⟨rfl, Acc.nils .., hres, her, hle1, rfl, by simp only; omega⟩ (by simp -dsimp only [go_sem, gS]) (.refl _) ?_
  rintro ⟨k, xs, s2, a, R⟩ G ⟨rfl, hacc, hrun, he2, hle2, hk, hk1⟩
  simp only at hacc hrun he2 hle2 hk hk1
  have hok : okK [p] R [(p, .var (psA l s2.pos))] := by simp only [hpS, eq_self, implies_true, hsh]
  simp -dsimp only [go_sem, gS]
  refine andK_split (hacc.lenable (by simp -dsimp only [go_sem, gS])) ?_
  rw [hacc.len hok]
  simp -dsimp only [go_sem, gS]
  have hBG : LeH B (hp R [(p, .var (psA l s2.pos))]) := leH_hp02 (hB.trans hacc.le) (by simp only [hpS, eq_self, implies_true, hBp])
  have hdel : ∀ n, LeH (del H p) (del (hp R [(p, .var (psA l n))]) p) := fun n => leH_gone (o := .var (psA l n)) hacc.le (by simp only [hpS, eq_self, implies_true, hBp])
  refine gif_split (fun h1 => ?_) (fun h1 => ?_)
  ·have h1' : xs.length = 8 := by have := of_decide_eq_true h1; omega
   simp -dsimp only [go_sem, gS, h1]
   refine gif_split (fun h2 => ?_) (fun h2 => ?_)
   ·have h2' : s2.pos < l.length := by have := of_decide_eq_true h2; omega
    rw [rowHd_bad he2 h1' h2'] at hrun
    rw [← hrun] at hP
    simp -dsimp only [go_sem, gS, seatV_on inferInstance]
    refine give_ok _ _ _ _ _ ?_
    simp -dsimp only [go_sem, gS]
    exact panW_drop ((hdel _).trans (leH_del1 _ p)) (panW_is (hP (by simp only; omega)))
   ·have h2' : ¬ s2.pos < l.length := by have := of_decide_eq_false h2; omega
    rw [rowHd_go he2 (fun h => h2' h.2)] at hrun
    have hbad := hend s2 (by rw [rend_eq he2]; simp; omega)
    rw [rargs_stop hbad] at hrun
    rw [← hrun] at hP
    simp -dsimp only [go_sem, gS, h2, hcl, hpan, List.append_nil, List.nil_append]
    refine hone _ s2 hBG (.len hsh hle2 he2 (by simp only [hpS, eq_self, implies_true, hsh])) _ _ (fun h => absurd h hbad) (fun _ => ?_)
    simp -dsimp only [go_sem, gS]
    exact panW_drop (hdel _) (panW_is (hP hbad))
  ·have h1' : ¬ xs.length = 8 := by have := of_decide_eq_false h1; omega
   rw [rowHd_go he2 (fun h => h1' h.1)] at hrun
   simp -dsimp only [go_sem, gS, h1, hcl, hpan, List.append_nil, List.nil_append]
   refine hone _ s2 hBG (.len hsh hle2 he2 (by simp only [hpS, eq_self, implies_true, hsh])) _ _ (fun h3 => ?_) (fun h3 => ?_)
   ·have hle3 := hq.le s2 hle2
    generalize (q s2).1 = t at hrun ⊢
    generalize (q s2).2 = s3 at hrun hle3 h3 ⊢
    obtain ⟨k, rfl⟩ : ∃ j, k = j + 1 := ⟨k - 1, by omega⟩
    simp -dsimp only [go_sem, gS]
    refine newV_hp (fun b6 v6 f6 w6 => ?_)
    simp only [off_cons, off_nil] at f6
    simp -dsimp only [go_sem, gS, f6]
    refine hacc.appTo (by simp only [hpS, eq_self, implies_true, f6]) (by simp only [hpS, eq_self, implies_true, hsh]) (by simp only [List.length_map, List.length_cons, List.length_nil]; omega) (fun a' R' hacc' hn => ?_)
    have hone' := hacc'.one
    have f60 := hacc.le.free f6.2.2
    have f6' := hn b6 (by simp only [hpS, eq_self, implies_true, f6]) f6.2.2
    rw [show xs.map D.str ++ [D.str t] = (xs ++ [t]).map D.str by simp] at hacc'
    have hne : xs ++ [t] ≠ [] := by simp
    simp -dsimp only [go_sem, gS, f6, hone']
    refine accept_ok _ p l s3 _ (.len hsh hle3 h3 (by simp only [hpS, eq_self, implies_true, f6])) _ ?_
    cases hg3 : (rgot l ⟨#[41]⟩ s3).1 with
    | true =>
     rw [rargs_close h3 hne hg3] at hrun
     rw [← hrun] at hK
     have her4 : (rgot l ⟨#[41]⟩ s3).2.err = 0 := by rw [rgot_err]; exact h3
     simp -dsimp only [go_sem, gS, f6]
     refine retW_deep ?_
     refine hacc'.deep (by simp only [hpS, eq_self, implies_true, f6']) (fun R'' hle'' hn'' => ?_)
     refine retW_drop (G := hp H [(p, .var (psA l (rgot l ⟨#[41]⟩ s3).2.pos))]) (leH_hp2 hle'' (by simp only [hpS, eq_self, implies_true, f6]) (by simp only [hpS, eq_self, implies_true, f60])) (retW_is (hK her4))
    | false =>
     rw [rargs_comma h3 hne hg3] at hrun
     rw [rgot_false hg3]
     simp -dsimp only [go_sem, gS, f6]
     refine must_ok _ p l s3 _ (.len hsh hle3 h3 (by simp only [hpS, eq_self, implies_true, f6])) _ _ (fun h4 => ?_) (fun h4 => ?_)
     ·rw [if_pos h4] at hrun
      have hle4 := rneed_le (t := ⟨#[44]⟩) hle3
      simp -dsimp only [go_sem, gS, f6]
      refine roundQ_next ⟨k, xs ++ [t], rneed l ⟨#[44]⟩ s3, a', R'⟩ _ ⟨rfl, hacc', hrun, h4, hle4, by simp; omega, by simp only; omega⟩ (Nat.lt_succ_self k) (by simp -dsimp only [go_sem, gS]) (leH_hp (by simp only [hpS, eq_self, implies_true, f6, f6']) (by simp only [hpS, eq_self, implies_true, f6, f6']))
     ·rw [if_neg h4] at hrun
      rw [← hrun] at hP
      simp -dsimp only [go_sem, gS]
      refine panW_drop (leH_gone (o := .var (psA l s3.pos)) hacc'.le (by simp only [hpS, eq_self, implies_true, f6, f60])) (panW_is (hP h4))
   ·rw [rargs_stop h3] at hrun
    rw [← hrun] at hP
    simp -dsimp only [go_sem, gS]
    exact panW_drop (hdel _) (panW_is (hP h3))
set_option maxHeartbeats 2000000 in
theorem rowBool_ok {eb : EbG} [On eb 2] [On eb 1] (B H : Heap) (p : Nat) (l : List Tok) (s : RdS) (g : FuncId) (caps : List A) (q : RdS → Bool × RdS) (h : PsAt H p l s) (hB : LeH B H) (hBp : B p = none)
  (hq : Steps l q) (hend : ∀ s, rend l s = true → (q s).2.err ≠ 0) (hcl : callable Tryd.prog g = true) (hpan : (seatV eb).pan g = true)
  (hone : One eb B p l g caps D.bool q)
  (K : A → Heap → Prop) (KP : Value → Heap → Prop) (hK : (rargs q l 10 [] s).2.err = 0 → K (.d (.slice ((rargs q l 10 [] s).1.map D.bool))) (pset H p l (rargs q l 10 [] s).2)) (hP : (rargs q l 10 [] s).2.err ≠ 0 → KP (boxE eb (rargs q l 10 [] s).2.err) (del H p)) :
  ACallP Tryd.prog (seatV eb) 44 [.ref p 0, .meth g caps] H K KP := by
 rw [rargs_open h.ok] at hK hP
 refine ACallP.by mixed fn44 (by simp) ?_
 conv in s44 => cbv
 refine svc_start ?_
 simp -dsimp only [go_sem, gS]
 refine accept_ok _ p l s _ h _ ?_
 have he := h.ok
 have hsh := h.short
 cases hg : (rgot l ⟨#[40]⟩ s).1 with
 | false =>
  rw [rgot_false hg, h.self]
  rw [hg] at hK
  simp only [Bool.false_eq_true, if_false, h.self] at hK
  simp -dsimp only [go_sem, gS]
  refine retW_deep ?_
  simp -dsimp only [go_sem, gS]
  exact retW_is (hK he)
 | true =>
  simp only [hg, if_true] at hK hP
  have hle1 := rgot_le (t := ⟨#[40]⟩) h.le
  have her : (rgot l ⟨#[40]⟩ s).2.err = 0 := by rw [rgot_err]; exact he
  generalize (rgot l ⟨#[40]⟩ s).2 = s1 at hK hP hle1 her ⊢
  generalize hres : rowHd q l 9 [] s1 = res at hK hP
  simp -dsimp only [go_sem, gS]
  refine svc_loop (X := PRow Bool) (fun x => [(0, .ref p 0), (1, .meth g caps), (5, x.a)])
   (fun x G => G = hp x.R [(p, .var (psA l x.s.pos))] ∧ Acc H [p] 4 1 (x.xs.map D.bool) x.a x.R ∧ rowHd q l x.k x.xs x.s = res ∧ x.s.err = 0 ∧ x.s.pos ≤ l.length ∧ x.k + x.xs.length = 9 ∧ 1 ≤ x.k)
   (fun x => x.k) ⟨9, [], s1, .nils, H⟩ _ ⟨rfl, Acc.nils .., hres, her, hle1, rfl, by simp only; omega⟩ (by simp -dsimp only [go_sem, gS]) (.refl _) ?_
  rintro ⟨k, xs, s2, a, R⟩ G ⟨rfl, hacc, hrun, he2, hle2, hk, hk1⟩
  simp only at hacc hrun he2 hle2 hk hk1
  have hok : okK [p] R [(p, .var (psA l s2.pos))] := by simp only [hpS, eq_self, implies_true, hsh]
  simp -dsimp only [go_sem, gS]
  refine andK_split (hacc.lenable (by simp -dsimp only [go_sem, gS])) ?_
  rw [hacc.len hok]
  simp -dsimp only [go_sem, gS]
  have hBG : LeH B (hp R [(p, .var (psA l s2.pos))]) := leH_hp02 (hB.trans hacc.le) (by simp only [hpS, eq_self, implies_true, hBp])
  have hdel : ∀ n, LeH (del H p) (del (hp R [(p, .var (psA l n))]) p) := fun n => leH_gone (o := .var (psA l n)) hacc.le (by simp only [hpS, eq_self, implies_true, hBp])
  refine gif_split (fun h1 => ?_) (fun h1 => ?_)
  ·have h1' : xs.length = 8 := by have := of_decide_eq_true h1; omega
   simp -dsimp only [go_sem, gS, h1]
   refine gif_split (fun h2 => ?_) (fun h2 => ?_)
   ·have h2' : s2.pos < l.length := by have := of_decide_eq_true h2; omega
    rw [rowHd_bad he2 h1' h2'] at hrun
    rw [← hrun] at hP
    simp -dsimp only [go_sem, gS, seatV_on inferInstance]
    refine give_ok _ _ _ _ _ ?_
    simp -dsimp only [go_sem, gS]
    exact panW_drop ((hdel _).trans (leH_del1 _ p)) (panW_is (hP (by simp only; omega)))
   ·have h2' : ¬ s2.pos < l.length := by have := of_decide_eq_false h2; omega
    rw [rowHd_go he2 (fun h => h2' h.2)] at hrun
    have hbad := hend s2 (by rw [rend_eq he2]; simp; omega)
    rw [rargs_stop hbad] at hrun
    rw [← hrun] at hP
    simp -dsimp only [go_sem, gS, h2, hcl, hpan, List.append_nil, List.nil_append]
    refine hone _ s2 hBG (.len hsh hle2 he2 (by simp only [hpS, eq_self, implies_true, hsh])) _ _ (fun h => absurd h hbad) (fun _ => ?_)
    simp -dsimp only [go_sem, gS]
    exact panW_drop (hdel _) (panW_is (hP hbad))
  ·have h1' : ¬ xs.length = 8 := by have := of_decide_eq_false h1; omega
   rw [rowHd_go he2 (fun h => h1' h.1)] at hrun
   simp -dsimp only [go_sem, gS, h1, hcl, hpan, List.append_nil, List.nil_append]
   refine hone _ s2 hBG (.len hsh hle2 he2 (by simp only [hpS, eq_self, implies_true, hsh])) _ _ (fun h3 => ?_) (fun h3 => ?_)
   ·have hle3 := hq.le s2 hle2
    generalize (q s2).1 = t at hrun ⊢
    generalize (q s2).2 = s3 at hrun hle3 h3 ⊢
    obtain ⟨k, rfl⟩ : ∃ j, k = j + 1 := ⟨k - 1, by omega⟩
    simp -dsimp only [go_sem, gS]
    refine newV_hp (fun b6 v6 f6 w6 => ?_)
    simp only [off_cons, off_nil] at f6
    simp -dsimp only [go_sem, gS, f6]
    refine hacc.appTo (by simp only [hpS, eq_self, implies_true, f6]) (by simp only [hpS, eq_self, implies_true, hsh]) (by simp only [List.length_map, List.length_cons, List.length_nil]; omega) (fun a' R' hacc' hn => ?_)
    have hone' := hacc'.one
    have f60 := hacc.le.free f6.2.2
    have f6' := hn b6 (by simp only [hpS, eq_self, implies_true, f6]) f6.2.2
    rw [show xs.map D.bool ++ [D.bool t] = (xs ++ [t]).map D.bool by simp] at hacc'
    have hne : xs ++ [t] ≠ [] := by simp
    simp -dsimp only [go_sem, gS, f6, hone']
    refine accept_ok _ p l s3 _ (.len hsh hle3 h3 (by simp only [hpS, eq_self, implies_true, f6])) _ ?_
    cases hg3 : (rgot l ⟨#[41]⟩ s3).1 with
    | true =>
     rw [rargs_close h3 hne hg3] at hrun
     rw [← hrun] at hK
     have her4 : (rgot l ⟨#[41]⟩ s3).2.err = 0 := by rw [rgot_err]; exact h3
     simp -dsimp only [go_sem, gS, f6]
     refine retW_deep ?_
     refine hacc'.deep (by simp only [hpS, eq_self, implies_true, f6']) (fun R'' hle'' hn'' => ?_)
     refine retW_drop (G := hp H [(p, .var (psA l (rgot l ⟨#[41]⟩ s3).2.pos))]) (leH_hp2 hle'' (by simp only [hpS, eq_self, implies_true, f6]) (by simp only [hpS, eq_self, implies_true, f60])) (retW_is (hK her4))
    | false =>
     rw [rargs_comma h3 hne hg3] at hrun
     rw [rgot_false hg3]
     simp -dsimp only [go_sem, gS, f6]
     refine must_ok _ p l s3 _ (.len hsh hle3 h3 (by simp only [hpS, eq_self, implies_true, f6])) _ _ (fun h4 => ?_) (fun h4 => ?_)
     ·rw [if_pos h4] at hrun
      have hle4 := rneed_le (t := ⟨#[44]⟩) hle3
      simp -dsimp only [go_sem, gS, f6]
      refine roundQ_next ⟨k, xs ++ [t], rneed l ⟨#[44]⟩ s3, a', R'⟩ _ ⟨rfl, hacc', hrun, h4, hle4, by simp; omega, by simp only; omega⟩ (Nat.lt_succ_self k) (by simp -dsimp only [go_sem, gS]) (leH_hp (by simp only [hpS, eq_self, implies_true, f6, f6']) (by simp only [hpS, eq_self, implies_true, f6, f6']))
     ·rw [if_neg h4] at hrun
      rw [← hrun] at hP
      simp -dsimp only [go_sem, gS]
      refine panW_drop (leH_gone (o := .var (psA l s3.pos)) hacc'.le (by simp only [hpS, eq_self, implies_true, f6, f60])) (panW_is (hP h4))
   ·rw [rargs_stop h3] at hrun
    rw [← hrun] at hP
    simp -dsimp only [go_sem, gS]
    exact panW_drop (hdel _) (panW_is (hP h3))
end Go.Aug

/- The program's parser: terms and types (printed by PqC.py). -/
namespace Go.Aug
open Go.Proofs
set_option maxRecDepth 100000
set_option linter.unusedSimpArgs false
attribute [local irreducible] hid andK letA onSome onVar onArr arrOnly onInt onBool onTup idxA ldV ldD addO ofPart appTo fillL slA srcK nilQ retW gif sgd sguard svc sops sdops sagain aopO aLoad aStore aBin aUn aConv aLen aIndexAddr aIndex aIndexAddrS aIndexS aSlice aAppend aBuild aBuildSlice aMakeSlice aField aFieldOf aCallOp deepK deepL frzM putE newK newV growV ACall roundQ thenQ inBlockQ sret cnd szs nilC aLookup aMapUpdate aMakeMap
attribute [local go_sem] Int.natCast_zero
/-- What a closure over the parser and a nest holds. -/
def capH (p b2 b3 n : Nat) : Heap := hp noH [(b2, .var [.ref p 0]), (b3, .var [.d (.int .i64 n)])]
theorem term1_ok {eb : EbG} {p b2 b3 n : Nat} {l : List Tok} {q : RdS → Tm × RdS} (hq : One eb noH p l 32 [.ref p 0, .d (.int .i64 (n + 1 : Nat))] Tm.d q) (hn : n < 1000) (e2 : eqn b2 p = false) (e3 : eqn b3 p = false) (e23 : eqn b3 b2 = false) :
  One eb (capH p b2 b3 n) p l 58 [.ref b2 0, .ref b3 0] Tm.d q := by
 intro H s hB h K KP hK hP
 have h2 := hB b2 _ (show capH p b2 b3 n b2 = some (.var [.ref p 0]) by unfold capH; simp only [hpS, eq_self, implies_true, noH])
 have h3 := hB b3 _ (show capH p b2 b3 n b3 = some (.var [.d (.int .i64 n)]) by unfold capH; simp only [hpS, eq_self, implies_true, noH, e23])
 have hw := wrapN (k := n) (by omega)
 have hsh := h.short
 have hle := h.le
 refine ACallP.hp_in h.at_ ?_
 refine ACallP.by mixed fn58 (by simp) ?_
 conv in s58 => cbv
 refine svc_start ?_
 simp -dsimp only [go_sem, gS]
 refine newK_hp (fun b9 f9 => ?_)
 simp only [off_cons, off_nil] at f9
 have e24 := fresh_ne f9.2.2 b2 (by rw [h2]; rfl)
 have e34 := fresh_ne f9.2.2 b3 (by rw [h3]; rfl)
 simp -dsimp only [go_sem, gS, f9, e2, e3, e24, e34, h2, h3, hw]
 refine hq _ s (leH_noH _) (.len hsh hle h.ok (by simp only [hpS, eq_self, implies_true, f9])) _ _ (fun h5 => ?_) (fun h5 => ?_)
 ·generalize (q s).1 = t at hK ⊢
  generalize (q s).2 = s3 at hK h5 ⊢
  have hcs := t.cs_length
  simp -dsimp only [go_sem, gS, hcs, Tm.d, f9]
  refine retW_drop (G := hp H [(p, .var (psA l s3.pos))]) (leH_hp (by simp only [hpS, eq_self, implies_true, f9]) (by simp only [hpS, eq_self, implies_true, f9])) (retW_is (hK h5))
 ·simp -dsimp only [go_sem, gS]
  exact gone2 (o := .var (psA l s.pos)) (.refl _) (by simp only [hpS, eq_self, implies_true, f9]) (hP h5)
set_option maxHeartbeats 4000000 in
theorem termP_ok {eb : EbG} [On eb 2] [On eb 1] [On eb 0] (p : Nat) (l : List Tok) : ∀ (f n : Nat) (_ : 67 ≤ f + n) (_ : n ≤ 66), One eb noH p l 32 [.ref p 0, .d (.int .i64 n)] Tm.d (rterm f l n)
 | 0, n, h1, h2 => by omega
 | f + 1, n, hf, hn => by
  intro H s _ h K KP hK hP
  have ih := fun h => termP_ok (eb := eb) p l f (n + 1) (by omega) h
  have hsh := h.short
  have hle := h.le
  have he := h.ok
  refine ACallP.hp_in h.at_ ?_
  refine ACallP.by mixed fn32 (by simp) ?_
  conv in s32 => cbv
  refine svc_start ?_
  simp -dsimp only [go_sem, gS]
  refine newK_hp (fun b2 f2 => ?_)
  simp only [off_cons, off_nil] at f2
  simp -dsimp only [go_sem, gS, f2]
  refine newK_hp (fun b3 f3 => ?_)
  simp only [off_cons, off_nil] at f3
  simp -dsimp only [go_sem, gS, f2, f3]
  refine newK_hp (fun b4 f4 => ?_)
  simp only [off_cons, off_nil] at f4
  simp -dsimp only [go_sem, gS, f2, f3, f4]
  refine deeper_ok _ p l s n (.len hsh hle he (by simp only [hpS, eq_self, implies_true, f2, f3, f4])) _ _ (fun h5 => ?_) (fun h5 => ?_)
  ·rw [rterm_is he h5] at hK hP
   rw [rnest_ok he h5]
   simp -dsimp only [go_sem, gS, f2, f3, f4]
   refine peek_ok _ p l s (.len hsh hle he (by simp only [hpS, eq_self, implies_true, f2, f3, f4])) _ ?_
   have e := wrapN (k := s.pos) (by omega)
   generalize rpeek l s.pos = k at hK hP ⊢
   simp -dsimp only [go_sem, gS, Tok.d, Tok.cs, f2, f3, f4]
   refine newK_hp (fun b5 f5 => ?_)
   simp only [off_cons, off_nil] at f5
   simp -dsimp only [go_sem, gS, f2, f3, f4, f5]
   refine gif_split (fun h6 => ?_) (fun h6 => ?_)
   ·rw [if_pos (of_decide_eq_true h6)] at hK
    simp -dsimp only [go_sem, gS, f2, f3, f4, f5, e]
    refine retW_deep ?_
    simp -dsimp only [go_sem, gS]
    refine retW_drop (G := hp H [(p, .var (psA l (s.pos + 1)))]) (leH_hp (by simp only [hpS, eq_self, implies_true, f2, f3, f4, f5]) (by simp only [hpS, eq_self, implies_true, f2, f3, f4, f5])) (retW_is ?_)
    have := hK rfl
    simp only [Tm.d, Tm.cs, Tm.ds] at this
    exact this
   ·rw [if_neg (of_decide_eq_false h6)] at hK hP
    simp -dsimp only [go_sem, gS, f2, f3, f4, f5, h6]
    refine gif_split (fun h7 => ?_) (fun h7 => ?_)
    ·rw [if_pos (of_decide_eq_true h7)] at hK
     simp -dsimp only [go_sem, gS, f2, f3, f4, f5, e]
     refine retW_deep ?_
     simp -dsimp only [go_sem, gS]
     refine retW_drop (G := hp H [(p, .var (psA l (s.pos + 1)))]) (leH_hp (by simp only [hpS, eq_self, implies_true, f2, f3, f4, f5]) (by simp only [hpS, eq_self, implies_true, f2, f3, f4, f5])) (retW_is ?_)
     have := hK rfl
     simp only [Tm.d, Tm.cs, Tm.ds] at this
     exact this
    ·rw [if_neg (of_decide_eq_false h7)] at hK hP
     simp -dsimp only [go_sem, gS, f2, f3, f4, f5, h7]
     refine name_ok p l _ s (leH_noH _) (.len hsh hle he (by simp only [hpS, eq_self, implies_true, f2, f3, f4, f5])) _ _ (fun h8 => ?_) (fun h8 => ?_)
     ·have hle8 := rword_le (kind := 1) hle
      have hn64 : n ≤ 64 := by
       have h9 := (rword_ok h8).2.2
       rw [rend_eq he] at h9
       have h9' := of_decide_eq_false h9
       rw [rnest_is he] at h5
       apply Classical.byContradiction; intro hh
       rw [if_pos ⟨by omega, by omega⟩] at h5
       cases h5
      generalize (rword l 1 s).1 = w at hK hP ⊢
      generalize (rword l 1 s).2 = s1 at hK hP hle8 h8 ⊢
      simp -dsimp only [go_sem, gS, f2, f3, f4, f5]
      refine rowTm_ok (capH p b2 b3 n) _ p l s1 _ _ (rterm f l (n + 1)) (.len hsh hle8 h8 (by simp only [hpS, eq_self, implies_true, f2, f3, f4, f5])) (leH_hp2 (leH_noH _) (by simp only [hpS, eq_self, implies_true, f2, f3, f4, f5]) (by simp only [hpS, eq_self, implies_true, noH])) (by unfold capH; simp only [hpS, eq_self, implies_true, noH, f2, f3]) (rterm_steps l f (n + 1))
       (fun s hs => rterm_end (by omega) hs) (by kernel_rfl) (by kernel_rfl) (term1_ok (ih (by omega)) (by omega) (by simp only [hpS, eq_self, implies_true, f2]) (by simp only [hpS, eq_self, implies_true, f3]) (by simp only [hpS, eq_self, implies_true, f3])) _ _ (fun h9 => ?_) (fun h9 => ?_)
      ·generalize (rargs (rterm f l (n + 1)) l 10 [] s1).1 = xs at hK hP ⊢
       generalize (rargs (rterm f l (n + 1)) l 10 [] s1).2 = s2 at hK hP h9 ⊢
       simp -dsimp only [go_sem, gS, f2, f3, f4, f5]
       refine retW_drop (G := hp H [(p, .var (psA l s2.pos))]) (leH_hp (by simp only [hpS, eq_self, implies_true, f2, f3, f4, f5]) (by simp only [hpS, eq_self, implies_true, f2, f3, f4, f5])) (retW_is ?_)
       have := hK h9
       simp only [Tm.d, Tm.cs, Tm.ds_map] at this
       exact this
      ·simp -dsimp only [go_sem, gS]
       exact gone2 (o := .var (psA l s1.pos)) (.refl _) (by simp only [hpS, eq_self, implies_true, f2, f3, f4, f5]) (hP h9)
     ·rw [rargs_stop h8] at hP
      simp -dsimp only [go_sem, gS]
      exact gone2 (o := .var (psA l s.pos)) (.refl _) (by simp only [hpS, eq_self, implies_true, f2, f3, f4, f5]) (hP h8)
  ·have hst : (rterm (f + 1) l n s).2.err = (rnest l n s).err := by
    have hr : rend l (rnest l n s) = true := by simp [rend, h5]
    simp only [rterm, hr, if_true, rword_err h5, rargs_stop h5]
   rw [hst] at hP
   simp -dsimp only [go_sem, gS]
   exact gone2 (o := .var (psA l s.pos)) (.refl _) (by simp only [hpS, eq_self, implies_true, f2, f3, f4]) (hP h5)
theorem typ1_ok {eb : EbG} {p b2 b3 n : Nat} {l : List Tok} {q : RdS → Ty × RdS} (hq : One eb noH p l 43 [.ref p 0, .d (.int .i64 (n + 1 : Nat))] Ty.d q) (hn : n < 1000) (e2 : eqn b2 p = false) (e3 : eqn b3 p = false) (e23 : eqn b3 b2 = false) :
  One eb (capH p b2 b3 n) p l 68 [.ref b2 0, .ref b3 0] Ty.d q := by
 intro H s hB h K KP hK hP
 have h2 := hB b2 _ (show capH p b2 b3 n b2 = some (.var [.ref p 0]) by unfold capH; simp only [hpS, eq_self, implies_true, noH])
 have h3 := hB b3 _ (show capH p b2 b3 n b3 = some (.var [.d (.int .i64 n)]) by unfold capH; simp only [hpS, eq_self, implies_true, noH, e23])
 have hw := wrapN (k := n) (by omega)
 have hsh := h.short
 have hle := h.le
 refine ACallP.hp_in h.at_ ?_
 refine ACallP.by mixed fn68 (by simp) ?_
 conv in s68 => cbv
 refine svc_start ?_
 simp -dsimp only [go_sem, gS]
 refine newK_hp (fun b9 f9 => ?_)
 simp only [off_cons, off_nil] at f9
 have e24 := fresh_ne f9.2.2 b2 (by rw [h2]; rfl)
 have e34 := fresh_ne f9.2.2 b3 (by rw [h3]; rfl)
 simp -dsimp only [go_sem, gS, f9, e2, e3, e24, e34, h2, h3, hw]
 refine hq _ s (leH_noH _) (.len hsh hle h.ok (by simp only [hpS, eq_self, implies_true, f9])) _ _ (fun h5 => ?_) (fun h5 => ?_)
 ·generalize (q s).1 = t at hK ⊢
  generalize (q s).2 = s3 at hK h5 ⊢
  have hcs := t.cs_length
  simp -dsimp only [go_sem, gS, hcs, Ty.d, f9]
  refine retW_drop (G := hp H [(p, .var (psA l s3.pos))]) (leH_hp (by simp only [hpS, eq_self, implies_true, f9]) (by simp only [hpS, eq_self, implies_true, f9])) (retW_is (hK h5))
 ·simp -dsimp only [go_sem, gS]
  exact gone2 (o := .var (psA l s.pos)) (.refl _) (by simp only [hpS, eq_self, implies_true, f9]) (hP h5)
set_option maxHeartbeats 4000000 in
theorem typP_ok {eb : EbG} [On eb 2] [On eb 1] [On eb 0] (p : Nat) (l : List Tok) : ∀ (f n : Nat) (_ : 67 ≤ f + n) (_ : n ≤ 66), One eb noH p l 43 [.ref p 0, .d (.int .i64 n)] Ty.d (rtype f l n)
 | 0, n, h1, h2 => by omega
 | f + 1, n, hf, hn => by
  intro H s _ h K KP hK hP
  have ih := fun h => typP_ok (eb := eb) p l f (n + 1) (by omega) h
  have hsh := h.short
  have hle := h.le
  have he := h.ok
  refine ACallP.hp_in h.at_ ?_
  refine ACallP.by mixed fn43 (by simp) ?_
  conv in s43 => cbv
  refine svc_start ?_
  simp -dsimp only [go_sem, gS]
  refine newK_hp (fun b2 f2 => ?_)
  simp only [off_cons, off_nil] at f2
  simp -dsimp only [go_sem, gS, f2]
  refine newK_hp (fun b3 f3 => ?_)
  simp only [off_cons, off_nil] at f3
  simp -dsimp only [go_sem, gS, f2, f3]
  refine newK_hp (fun b4 f4 => ?_)
  simp only [off_cons, off_nil] at f4
  simp -dsimp only [go_sem, gS, f2, f3, f4]
  refine deeper_ok _ p l s n (.len hsh hle he (by simp only [hpS, eq_self, implies_true, f2, f3, f4])) _ _ (fun h5 => ?_) (fun h5 => ?_)
  ·rw [rtype_is he h5] at hK hP
   rw [rnest_ok he h5]
   simp -dsimp only [go_sem, gS, f2, f3, f4]
   refine peek_ok _ p l s (.len hsh hle he (by simp only [hpS, eq_self, implies_true, f2, f3, f4])) _ ?_
   have e := wrapN (k := s.pos) (by omega)
   have hnx := fun G h K hK => next_ok (eb := eb) G p l s h K hK
   generalize rpeek l s.pos = k at hK hP hnx ⊢
   simp -dsimp only [go_sem, gS, Tok.d, Tok.cs, f2, f3, f4]
   refine gif_split (fun h6 => ?_) (fun h6 => ?_)
   ·rw [if_pos (of_decide_eq_true h6)] at hK
    simp -dsimp only [go_sem, gS, f2, f3, f4]
    refine hnx _ (.len hsh hle he (by simp only [hpS, eq_self, implies_true, f2, f3, f4])) _ ?_
    simp -dsimp only [go_sem, gS, Tok.d, Tok.cs, f2, f3, f4]
    refine retW_deep ?_
    simp -dsimp only [go_sem, gS]
    refine retW_drop (G := hp H [(p, .var (psA l (s.pos + 1)))]) (leH_hp (by simp only [hpS, eq_self, implies_true, f2, f3, f4]) (by simp only [hpS, eq_self, implies_true, f2, f3, f4])) (retW_is ?_)
    have := hK rfl
    simp only [Ty.d, Ty.cs, Ty.ds] at this
    exact this
   ·rw [if_neg (of_decide_eq_false h6)] at hK hP
    simp -dsimp only [go_sem, gS, f2, f3, f4, h6]
    refine accept_ok _ p l s _ (.len hsh hle he (by simp only [hpS, eq_self, implies_true, f2, f3, f4])) _ ?_
    cases h7 : (rgot l kInt s).1 with
    | true =>
     have h7' : (rgot l ⟨#[105, 110, 116]⟩ s).1 = true := h7
     rw [h7, if_pos rfl] at hK
     have her : (rgot l kInt s).2.err = 0 := by rw [rgot_err]; exact he
     rw [h7']
     simp -dsimp only [go_sem, gS, f2, f3, f4]
     refine retW_deep ?_
     simp -dsimp only [go_sem, gS]
     refine retW_drop (G := hp H [(p, .var (psA l (rgot l kInt s).2.pos))]) (leH_hp (by simp only [hpS, eq_self, implies_true, f2, f3, f4, kInt]) (by simp only [hpS, eq_self, implies_true, f2, f3, f4, kInt])) (retW_is ?_)
     have := hK her
     simp only [Ty.d, Ty.cs, Ty.ds] at this
     exact this
    | false =>
     have h7' : (rgot l ⟨#[105, 110, 116]⟩ s).1 = false := h7
     rw [h7, if_neg Bool.false_ne_true] at hK hP
     rw [rgot_false h7', h7']
     simp -dsimp only [go_sem, gS, f2, f3, f4]
     refine name_ok p l _ s (leH_noH _) (.len hsh hle he (by simp only [hpS, eq_self, implies_true, f2, f3, f4])) _ _ (fun h8 => ?_) (fun h8 => ?_)
     ·have hle8 := rword_le (kind := 1) hle
      have hn64 : n ≤ 64 := by
       have h9 := (rword_ok h8).2.2
       rw [rend_eq he] at h9
       have h9' := of_decide_eq_false h9
       rw [rnest_is he] at h5
       apply Classical.byContradiction; intro hh
       rw [if_pos ⟨by omega, by omega⟩] at h5
       cases h5
      generalize (rword l 1 s).1 = w at hK hP ⊢
      generalize (rword l 1 s).2 = s1 at hK hP hle8 h8 ⊢
      simp -dsimp only [go_sem, gS, f2, f3, f4]
      refine rowTy_ok (capH p b2 b3 n) _ p l s1 _ _ (rtype f l (n + 1)) (.len hsh hle8 h8 (by simp only [hpS, eq_self, implies_true, f2, f3, f4])) (leH_hp2 (leH_noH _) (by simp only [hpS, eq_self, implies_true, f2, f3, f4]) (by simp only [hpS, eq_self, implies_true, noH])) (by unfold capH; simp only [hpS, eq_self, implies_true, noH, f2, f3]) (rtype_steps l f (n + 1))
       (fun s hs => rtype_end (by omega) hs) (by kernel_rfl) (by kernel_rfl) (typ1_ok (ih (by omega)) (by omega) (by simp only [hpS, eq_self, implies_true, f2]) (by simp only [hpS, eq_self, implies_true, f3]) (by simp only [hpS, eq_self, implies_true, f3])) _ _ (fun h9 => ?_) (fun h9 => ?_)
      ·generalize (rargs (rtype f l (n + 1)) l 10 [] s1).1 = xs at hK hP ⊢
       generalize (rargs (rtype f l (n + 1)) l 10 [] s1).2 = s2 at hK hP h9 ⊢
       simp -dsimp only [go_sem, gS, f2, f3, f4]
       refine retW_drop (G := hp H [(p, .var (psA l s2.pos))]) (leH_hp (by simp only [hpS, eq_self, implies_true, f2, f3, f4]) (by simp only [hpS, eq_self, implies_true, f2, f3, f4])) (retW_is ?_)
       have := hK h9
       simp only [Ty.d, Ty.cs, Ty.ds_map] at this
       exact this
      ·simp -dsimp only [go_sem, gS]
       exact gone2 (o := .var (psA l s1.pos)) (.refl _) (by simp only [hpS, eq_self, implies_true, f2, f3, f4]) (hP h9)
     ·rw [rargs_stop h8] at hP
      simp -dsimp only [go_sem, gS]
      exact gone2 (o := .var (psA l s.pos)) (.refl _) (by simp only [hpS, eq_self, implies_true, f2, f3, f4]) (hP h8)
  ·have hst : (rtype (f + 1) l n s).2.err = (rnest l n s).err := by
    have hr : rend l (rnest l n s) = true := by simp [rend, h5]
    simp [rtype, varTok, hr, rgot_errs h5, rword_err h5, rargs_stop h5]
   rw [hst] at hP
   simp -dsimp only [go_sem, gS]
   exact gone2 (o := .var (psA l s.pos)) (.refl _) (by simp only [hpS, eq_self, implies_true, f2, f3, f4]) (hP h5)
end Go.Aug
