/- The grammar as plain functions, and what holds of them; no conditions but those in each theorem. -/
import Derived.Test.YthldjffimcngaaaGreatDoorAugFive
import Derived.Test.YthldjffimcngaaaGreatDoorAugFour
import Derived.Lib.Bytealg
set_option linter.all false
set_option linter.unusedVariables false
set_option linter.unusedSimpArgs false
set_option linter.unusedSectionVars false

/- Plain: the part of ParA that names no program. -/
namespace Go.Aug
set_option maxRecDepth 100000
set_option linter.unusedSimpArgs false
attribute [local irreducible] hid andK letA onSome onVar onArr arrOnly onInt onBool onTup idxA ldV ldD addO ofPart appTo fillL slA srcK nilQ retW gif sgd sguard svc sops sdops sagain aopO aLoad aStore aBin aUn aConv aLen aIndexAddr aIndex aIndexAddrS aIndexS aSlice aAppend aBuild aBuildSlice aMakeSlice aField aFieldOf aCallOp deepK deepL frzM putE newK newV growV ACall roundQ thenQ inBlockQ sret cnd szs nilC onRow aLookup aMapUpdate aMakeMap
attribute [local go_sem] Int.natCast_zero
structure Tok where
 kind : Int
 text : ByteArray
 int : Int
 deriving DecidableEq, Inhabited
def Tok.cs (t : Tok) : List D := [.int .i64 t.kind, .str t.text, .int .i64 t.int]
def Tok.d (t : Tok) : D := .agg t.cs
structure RdS where
 pos : Nat
 err : Int
abbrev rdA (l : List Tok) (s : RdS) : List A := [.d (.slice (l.map Tok.d)), .d (.int .i64 s.pos), .d (.int .i64 s.err)]
def rend (l : List Tok) (s : RdS) : Bool := !decide (s.err = 0) || decide (l.length ≤ s.pos)
def rfail (e : Int) (s : RdS) : RdS := if s.err = 0 then ⟨s.pos, e⟩ else s
def ris (l : List Tok) (t : ByteArray) (s : RdS) : Bool := !rend l s && match l[s.pos]? with
 | some k => decide (k.text = t) && (decide (k.kind = 1) || decide (k.kind = 4))
 | none => false
def rgot (l : List Tok) (t : ByteArray) (s : RdS) : Bool × RdS := if ris l t s = true then (true, ⟨s.pos + 1, s.err⟩) else (false, s)
def rneed (l : List Tok) (t : ByteArray) (s : RdS) : RdS := if s.err = 0 then (if (rgot l t s).1 = true then (rgot l t s).2 else rfail 2 (rgot l t s).2) else s
def rnest (l : List Tok) (n : Nat) (s : RdS) : RdS := if 64 < n ∧ rend l s = false then rfail 3 s else s
theorem wrapN {k : Nat} (h : k < 1099511627776) : IntKind.i64.wrap ((k : Int) + 1) = ((k + 1 : Nat) : Int) := by rw [wrap64 (by omega) (by omega)]; omega
theorem upd_self {H : Heap} {r : Nat} {o : AObj} (h : H r = some o) : upd H r o = H := by
 funext k; unfold upd; split
 ·rename_i e; subst e; exact h.symm
 ·rfl
structure RdAt (H : Heap) (r : Nat) (l : List Tok) (s : RdS) : Prop where
 at_ : H r = some (.var (rdA l s))
 short : l.length < 1073741824
 le : s.pos ≤ l.length
def rset (H : Heap) (r : Nat) (l : List Tok) (s : RdS) : Heap := upd H r (.var (rdA l s))
theorem RdAt.self {H : Heap} {r : Nat} {l : List Tok} {s : RdS} (h : RdAt H r l s) : rset H r l s = H := upd_self h.at_
theorem RdAt.to {H : Heap} {r : Nat} {l : List Tok} {s : RdS} (h : RdAt H r l s) {s' : RdS} (hs : s'.pos ≤ l.length) : RdAt (rset H r l s') r l s' := ⟨upd_same .., h.short, hs⟩
theorem rset_rset {H : Heap} {r : Nat} {l : List Tok} {s s' : RdS} : rset (rset H r l s) r l s' = rset H r l s' := upd_upd
@[go_sem] theorem rset_hp {R : Heap} {lst : List (Nat × AObj)} {r : Nat} {l : List Tok} {s : RdS} : rset (hp R lst) r l s = hp R (setL r (.var (rdA l s)) lst) := upd_hp
theorem RdAt.len {H H' : Heap} {r : Nat} {l : List Tok} {s s' : RdS} (h : RdAt H r l s) (hs : s'.pos ≤ l.length) (ha : H' r = some (.var (rdA l s'))) : RdAt H' r l s' := ⟨ha, h.short, hs⟩
theorem rend_tok {l : List Tok} {s : RdS} (h : rend l s = false) : s.err = 0 ∧ s.pos < l.length ∧ ∃ k, l[s.pos]? = some k := by
 simp [rend] at h
 exact ⟨h.1, h.2, l[s.pos], by simp [h.2]⟩

theorem rgot_le {l : List Tok} {t : ByteArray} {s : RdS} (h : s.pos ≤ l.length) : (rgot l t s).2.pos ≤ l.length := by
 unfold rgot
 split
 ·rename_i hi
  simp only [ris, Bool.and_eq_true, Bool.not_eq_true'] at hi
  have := (rend_tok hi.1).2.1
  simp only; omega
 ·exact h
theorem rgot_ge (l : List Tok) (t : ByteArray) (s : RdS) : s.pos ≤ (rgot l t s).2.pos := by
 unfold rgot; split <;> simp
theorem rgot_err (l : List Tok) (t : ByteArray) (s : RdS) : (rgot l t s).2.err = s.err := by
 unfold rgot; split <;> simp
theorem rgot_true {l : List Tok} {t : ByteArray} {s : RdS} (h : (rgot l t s).1 = true) : s.err = 0 ∧ (rgot l t s).2.pos = s.pos + 1 ∧ s.pos < l.length := by
 unfold rgot at h ⊢
 split at h
 ·rename_i hi
  rw [if_pos hi]
  simp only [ris, Bool.and_eq_true, Bool.not_eq_true'] at hi
  exact ⟨(rend_tok hi.1).1, rfl, (rend_tok hi.1).2.1⟩
 ·cases h
theorem rfail_pos (e : Int) (s : RdS) : (rfail e s).pos = s.pos := by unfold rfail; split <;> rfl
theorem rfail_err {e : Int} (he : e ≠ 0) (s : RdS) : (rfail e s).err ≠ 0 := by unfold rfail; split <;> assumption
theorem rneed_le {l : List Tok} {t : ByteArray} {s : RdS} (h : s.pos ≤ l.length) : (rneed l t s).pos ≤ l.length := by
 unfold rneed; repeat' split
 ·exact rgot_le h
 ·rw [rfail_pos]; exact rgot_le h
 ·exact h
theorem rneed_ge (l : List Tok) (t : ByteArray) (s : RdS) : s.pos ≤ (rneed l t s).pos := by
 unfold rneed; repeat' split
 ·exact rgot_ge ..
 ·rw [rfail_pos]; exact rgot_ge ..
 ·exact Nat.le_refl _
theorem rneed_ok {l : List Tok} {t : ByteArray} {s : RdS} (h : (rneed l t s).err = 0) : s.err = 0 ∧ (rneed l t s).pos = s.pos + 1 := by
 unfold rneed at h ⊢
 split at h
 ·rename_i h0
  rw [if_pos h0]
  split at h
  ·rename_i h1
   rw [if_pos h1]
   exact ⟨h0, (rgot_true h1).2.1⟩
  ·exact absurd h (rfail_err (by decide) _)
 ·exact absurd h (by assumption)
theorem rnest_pos (l : List Tok) (n : Nat) (s : RdS) : (rnest l n s).pos = s.pos := by unfold rnest; split; exact rfail_pos ..; rfl
def reserved : List ByteArray := [⟨#[116, 121, 112, 101]⟩, ⟨#[112, 114, 101, 100]⟩, ⟨#[109, 111, 100, 101]⟩, ⟨#[105, 115]⟩, ⟨#[100, 101, 116]⟩, ⟨#[115, 101, 109, 105, 100, 101, 116]⟩, ⟨#[109, 117, 108, 116, 105]⟩, ⟨#[110, 111, 110, 100, 101, 116]⟩,
 ⟨#[105, 110]⟩, ⟨#[111, 117, 116]⟩, ⟨#[116, 114, 117, 101]⟩, ⟨#[102, 97, 105, 108]⟩, ⟨#[110, 111, 116]⟩, ⟨#[116, 104, 114, 111, 119]⟩, ⟨#[116, 114, 121]⟩, ⟨#[99, 97, 116, 99, 104]⟩, ⟨#[116, 104, 101, 110]⟩, ⟨#[105, 110, 116]⟩]
def isReserved (s : ByteArray) : Bool := reserved.any fun w => decide (w = s)
def rword (l : List Tok) (kind : Int) (s : RdS) : ByteArray × RdS :=
 match (if rend l s = true then none else l[s.pos]?) with
 | some k => if k.kind ≠ kind ∨ (kind = 1 ∧ isReserved k.text = true) then (⟨#[]⟩, rfail 2 s) else (k.text, ⟨s.pos + 1, s.err⟩)
 | none => (⟨#[]⟩, rfail 2 s)
theorem rword_le {l : List Tok} {kind : Int} {s : RdS} (h : s.pos ≤ l.length) : (rword l kind s).2.pos ≤ l.length := by
 unfold rword
 split
 ·rename_i k hk
  split
  ·rw [rfail_pos]; exact h
  ·split at hk
   ·cases hk
   ·rename_i he
    have := (rend_tok (by simpa using he)).2.1
    simp only; omega
 ·rw [rfail_pos]; exact h
theorem rword_ge (l : List Tok) (kind : Int) (s : RdS) : s.pos ≤ (rword l kind s).2.pos := by
 unfold rword; repeat' split
 ·rw [rfail_pos]; exact Nat.le_refl _
 ·simp
 ·rw [rfail_pos]; exact Nat.le_refl _
theorem rword_ok {l : List Tok} {kind : Int} {s : RdS} (h : (rword l kind s).2.err = 0) : s.err = 0 ∧ (rword l kind s).2.pos = s.pos + 1 ∧ rend l s = false := by
 unfold rword at h ⊢
 split at h
 ·rename_i k hk
  split at h
  ·exact absurd h (rfail_err (by decide) _)
  ·rename_i hc
   rw [if_neg hc]
   split at hk
   ·cases hk
   ·rename_i he
    exact ⟨h, rfl, by simpa using he⟩
 ·exact absurd h (rfail_err (by decide) _)
def rmoreFin (l : List Tok) (n : Nat) (s : RdS) : Bool × RdS := (decide ((if n = 8 ∧ rend l s = false then rfail 4 s else s).err = 0), if n = 8 ∧ rend l s = false then rfail 4 s else s)
def rmore (l : List Tok) (n : Nat) (s : RdS) : Bool × RdS :=
 if n = 0 then (if (rgot l ⟨#[40]⟩ s).1 = true then rmoreFin l n (rgot l ⟨#[40]⟩ s).2 else (false, (rgot l ⟨#[40]⟩ s).2))
 else if (rgot l ⟨#[41]⟩ s).1 = true ∨ (rgot l ⟨#[41]⟩ s).2.err ≠ 0 then (false, (rgot l ⟨#[41]⟩ s).2) else rmoreFin l n (rneed l ⟨#[44]⟩ (rgot l ⟨#[41]⟩ s).2)
theorem rmoreFin_pos (l : List Tok) (n : Nat) (s : RdS) : (rmoreFin l n s).2.pos = s.pos := by
 unfold rmoreFin; simp only; split
 ·exact rfail_pos ..
 ·rfl
theorem rmore_le {l : List Tok} {n : Nat} {s : RdS} (h : s.pos ≤ l.length) : (rmore l n s).2.pos ≤ l.length := by
 unfold rmore; repeat' split
 ·rw [rmoreFin_pos]; exact rgot_le h
 ·exact rgot_le h
 ·exact rgot_le h
 ·rw [rmoreFin_pos]; exact rneed_le (rgot_le h)
theorem rmore_ge (l : List Tok) (n : Nat) (s : RdS) : s.pos ≤ (rmore l n s).2.pos := by
 unfold rmore; repeat' split
 ·rw [rmoreFin_pos]; exact rgot_ge ..
 ·exact rgot_ge ..
 ·exact rgot_ge ..
 ·rw [rmoreFin_pos]; exact Nat.le_trans (rgot_ge l ⟨#[41]⟩ s) (rneed_ge ..)
theorem rmore_true {l : List Tok} {n : Nat} {s : RdS} (h : (rmore l n s).1 = true) : (rmore l n s).2.err = 0 ∧ s.pos + 1 ≤ (rmore l n s).2.pos ∧ (n = 8 → rend l (rmore l n s).2 = true) := by
 have fin : ∀ s', (rmoreFin l n s').1 = true → (rmoreFin l n s').2.err = 0 ∧ (n = 8 → rend l (rmoreFin l n s').2 = true) ∧ s'.err = 0 := by
  intro s' hs
  simp only [rmoreFin, decide_eq_true_eq] at hs ⊢
  split at hs
  ·exact absurd hs (rfail_err (by decide) _)
  ·rename_i hc
   rw [if_neg hc]
   refine ⟨hs, fun h8 => ?_, hs⟩
   cases hr : rend l s' with
   | true => rfl
   | false => exact absurd ⟨h8, hr⟩ hc
 unfold rmore at h ⊢
 split at h
 ·rename_i h0
  rw [if_pos h0]
  split at h
  ·rename_i hg
   rw [if_pos hg]
   obtain ⟨a, b, c⟩ := fin _ h
   refine ⟨a, ?_, b⟩
   rw [rmoreFin_pos, (rgot_true hg).2.1]; exact Nat.le_refl _
  ·cases h
 ·rename_i h0
  rw [if_neg h0]
  split at h
  ·cases h
  ·rename_i hc
   rw [if_neg hc]
   obtain ⟨a, b, c⟩ := fin _ h
   refine ⟨a, ?_, b⟩
   rw [rmoreFin_pos, (rneed_ok c).2]
   have := rgot_ge l ⟨#[41]⟩ s
   omega

inductive Tm where
 | mk (kind : Int) (name : ByteArray) (int : Int) (args : List Tm)
 deriving Inhabited
mutual
def Tm.cs : Tm → List D
 | .mk k n i xs => [.int .i64 k, .str n, .int .i64 i, .slice (Tm.ds xs)]
def Tm.ds : List Tm → List D
 | [] => []
 | t :: ts => .agg t.cs :: Tm.ds ts
end
def Tm.d (t : Tm) : D := .agg t.cs
theorem Tm.ds_map : ∀ xs : List Tm, Tm.ds xs = xs.map Tm.d
 | [] => rfl
 | t :: ts => by simp only [Tm.ds, List.map_cons, Tm.ds_map ts]; rfl
theorem Tm.cs_length (t : Tm) : t.cs.length = 4 := by cases t; simp [Tm.cs]
def rargs {α : Type} (p : RdS → α × RdS) (l : List Tok) : Nat → List α → RdS → List α × RdS
 | 0, xs, s => (xs, s)
 | k + 1, xs, s => if s.err = 0 then (if (rmore l xs.length s).1 = true then rargs p l k (xs ++ [(p (rmore l xs.length s).2).1]) (p (rmore l xs.length s).2).2 else (xs, (rmore l xs.length s).2)) else (xs, s)
theorem rargs_stop {α : Type} {p : RdS → α × RdS} {l : List Tok} {k : Nat} {xs : List α} {s : RdS} (h : s.err ≠ 0) : rargs p l k xs s = (xs, s) := by
 cases k with
 | zero => rfl
 | succ k => simp only [rargs, if_neg h]
def rterm : Nat → List Tok → Nat → RdS → Tm × RdS
 | 0, _, _, s => (default, s)
 | f + 1, l, n, s =>
  match (if rend l (rnest l n s) = true then none else l[(rnest l n s).pos]?) with
  | some k => if k.kind = 3 then (.mk 2 ⟨#[]⟩ k.int [], ⟨(rnest l n s).pos + 1, (rnest l n s).err⟩) else if k.kind = 2 then (.mk 1 k.text 0 [], ⟨(rnest l n s).pos + 1, (rnest l n s).err⟩)
   else (.mk 3 (rword l 1 (rnest l n s)).1 0 (rargs (rterm f l (n + 1)) l 10 [] (rword l 1 (rnest l n s)).2).1, (rargs (rterm f l (n + 1)) l 10 [] (rword l 1 (rnest l n s)).2).2)
  | none => (.mk 3 (rword l 1 (rnest l n s)).1 0 (rargs (rterm f l (n + 1)) l 10 [] (rword l 1 (rnest l n s)).2).1, (rargs (rterm f l (n + 1)) l 10 [] (rword l 1 (rnest l n s)).2).2)
theorem rargs_le {α : Type} {p : RdS → α × RdS} {l : List Tok} (hp : ∀ s, s.pos ≤ l.length → (p s).2.pos ≤ l.length) : ∀ (k : Nat) (xs : List α) (s : RdS), s.pos ≤ l.length → (rargs p l k xs s).2.pos ≤ l.length
 | 0, _, _, h => h
 | k + 1, xs, s, h => by
  simp only [rargs]
  repeat' split
  ·exact rargs_le hp k _ _ (hp _ (rmore_le h))
  ·exact rmore_le h
  ·exact h
theorem rterm_le {l : List Tok} : ∀ (f n : Nat) (s : RdS), s.pos ≤ l.length → (rterm f l n s).2.pos ≤ l.length
 | 0, _, _, h => h
 | f + 1, n, s, h => by
  have h1 : (rnest l n s).pos ≤ l.length := by rw [rnest_pos]; exact h
  have hw := rargs_le (p := rterm f l (n + 1)) (fun s hs => rterm_le f (n + 1) s hs) 10 [] _ (rword_le (kind := 1) h1)
  simp only [rterm]
  split
  ·rename_i k hk
   have : (rnest l n s).pos + 1 ≤ l.length := by
    split at hk
    ·cases hk
    ·exact (List.getElem?_eq_some_iff.1 hk).1
   repeat' split
   ·exact this
   ·exact this
   ·exact hw
  ·exact hw
theorem rnest_deep {l : List Tok} {n : Nat} {s : RdS} (h : 64 < n) : rend l (rnest l n s) = true := by
 cases he : rend l s with
 | true =>
  have : rnest l n s = s := by unfold rnest; rw [if_neg (by simp [he])]
  rw [this]; exact he
 | false =>
  have : rnest l n s = rfail 3 s := by unfold rnest; rw [if_pos ⟨h, he⟩]
  rw [this]
  have := rfail_err (e := 3) (by decide) s
  simp [rend, this]
theorem aLen_acc_eq {G H : Heap} {E : TypeId} {sz : Nat} {l : List D} {a : A} (h : AccAt G E sz l a H) (K : A → Prop) : aLen a H K = K (.d (.int .i64 l.length)) := by
 obtain ⟨hle, ⟨rfl, rfl⟩ | ⟨b, v, rfl, hb, hv, hH⟩⟩ := h
 ·simp [aLen]
 ·simp only [aLen, hH, true_and]
theorem AccAt.allD {G H : Heap} {E : TypeId} {sz : Nat} {l : List D} {a : A} (h : AccAt G E sz l a H) : allD [a] = none := by
 rcases h.2 with ⟨_, rfl⟩ | ⟨b, v, rfl, _⟩ <;> rfl
theorem AccAt.one {G H : Heap} {E : TypeId} {sz : Nat} {l : List D} {a : A} (h : AccAt G E sz l a H) : a.good = true ∧ a.cells = [a] := by
 rcases h.2 with ⟨_, rfl⟩ | ⟨b, v, rfl, _⟩ <;> exact ⟨rfl, rfl⟩
theorem rterm_end {f : Nat} {l : List Tok} {n : Nat} {s : RdS} (hf : 0 < f) (h : rend l s = true) : (rterm f l n s).2.err ≠ 0 := by
 obtain ⟨f, rfl⟩ : ∃ f', f = f' + 1 := ⟨f - 1, by omega⟩
 have h1 : rnest l n s = s := by unfold rnest; rw [if_neg (by simp [h])]
 have h2 : (rword l 1 s).2.err ≠ 0 := by
  have : rword l 1 s = (⟨#[]⟩, rfail 2 s) := by simp [rword, h]
  rw [this]; exact rfail_err (by decide) s
 simp only [rterm, h1, h, if_true]
 rw [rargs_stop h2]
 exact h2

inductive Ty where
 | mk (var : Bool) (name : ByteArray) (args : List Ty)
 deriving Inhabited
mutual
def Ty.cs : Ty → List D
 | .mk v n xs => [.bool v, .str n, .slice (Ty.ds xs)]
def Ty.ds : List Ty → List D
 | [] => []
 | t :: ts => .agg t.cs :: Ty.ds ts
end
def Ty.d (t : Ty) : D := .agg t.cs
theorem Ty.ds_map : ∀ xs : List Ty, Ty.ds xs = xs.map Ty.d
 | [] => rfl
 | t :: ts => by simp only [Ty.ds, List.map_cons, Ty.ds_map ts]; rfl
theorem Ty.cs_length (t : Ty) : t.cs.length = 3 := by cases t; simp [Ty.cs]
def kInt : ByteArray := ⟨#[105, 110, 116]⟩
def varTok (l : List Tok) (s : RdS) : Option Tok := if rend l s = true then none else match l[s.pos]? with
 | some k => if k.kind = 2 then some k else none
 | none => none
theorem rgot_false {l : List Tok} {t : ByteArray} {s : RdS} (h : (rgot l t s).1 = false) : (rgot l t s).2 = s := by
 unfold rgot at h ⊢; split at h
 ·cases h
 ·rename_i hc; rw [if_neg hc]
def rtype : Nat → List Tok → Nat → RdS → Ty × RdS
 | 0, _, _, s => (default, s)
 | f + 1, l, n, s =>
  match varTok l (rnest l n s) with
  | some k => (.mk true k.text [], ⟨(rnest l n s).pos + 1, (rnest l n s).err⟩)
  | none => if (rgot l kInt (rnest l n s)).1 = true then (.mk false kInt [], (rgot l kInt (rnest l n s)).2)
   else (.mk false (rword l 1 (rnest l n s)).1 (rargs (rtype f l (n + 1)) l 10 [] (rword l 1 (rnest l n s)).2).1, (rargs (rtype f l (n + 1)) l 10 [] (rword l 1 (rnest l n s)).2).2)
theorem rtype_le {l : List Tok} : ∀ (f n : Nat) (s : RdS), s.pos ≤ l.length → (rtype f l n s).2.pos ≤ l.length
 | 0, _, _, h => h
 | f + 1, n, s, h => by
  have h1 : (rnest l n s).pos ≤ l.length := by rw [rnest_pos]; exact h
  have hw := rargs_le (p := rtype f l (n + 1)) (fun s hs => rtype_le f (n + 1) s hs) 10 [] _ (rword_le (kind := 1) h1)
  simp only [rtype]
  split
  ·rename_i k hk
   unfold varTok at hk
   split at hk
   ·cases hk
   ·rename_i he
    have := (rend_tok (by simpa using he)).2.1
    simp only; omega
  ·split
   ·exact rgot_le h1
   ·exact hw
theorem rtype_end {f : Nat} {l : List Tok} {n : Nat} {s : RdS} (hf : 0 < f) (h : rend l s = true) : (rtype f l n s).2.err ≠ 0 := by
 obtain ⟨f, rfl⟩ : ∃ f', f = f' + 1 := ⟨f - 1, by omega⟩
 have h1 : rnest l n s = s := by unfold rnest; rw [if_neg (by simp [h])]
 have h2 : (rword l 1 s).2.err ≠ 0 := by
  have : rword l 1 s = (⟨#[]⟩, rfail 2 s) := by simp [rword, h]
  rw [this]; exact rfail_err (by decide) s
 have h3 : (rgot l kInt s).1 = false := by simp [rgot, ris, h]
 simp only [rtype, h1, varTok, h, if_true, h3]
 rw [rargs_stop h2]
 exact h2
end Go.Aug

/- Plain: the part of ParE that names no program. -/
namespace Go.Aug
set_option maxRecDepth 100000
set_option linter.unusedSimpArgs false
attribute [local irreducible] hid andK letA onSome onVar onArr arrOnly onInt onBool onTup idxA ldV ldD addO ofPart appTo fillL slA srcK nilQ retW gif sgd sguard svc sops sdops sagain aopO aLoad aStore aBin aUn aConv aLen aIndexAddr aIndex aIndexAddrS aIndexS aSlice aAppend aBuild aBuildSlice aMakeSlice aField aFieldOf aCallOp deepK deepL frzM putE newK newV growV ACall roundQ thenQ inBlockQ sret cnd szs nilC onRow aLookup aMapUpdate aMakeMap
inductive Gl where
 | mk (kind : Int) (a b : Tm) (name : ByteArray) (args : List Tm) (goals : List Gl)
def Tm.none : Tm := .mk 0 ⟨#[]⟩ 0 []
instance : Inhabited Gl := ⟨.mk 0 .none .none ⟨#[]⟩ [] []⟩
mutual
def Gl.cs : Gl → List D
 | .mk k a b n xs gs => .int .i64 k :: (a.cs ++ (b.cs ++ [.str n, .slice (xs.map Tm.d), .slice (Gl.ds gs)]))
def Gl.ds : List Gl → List D
 | [] => []
 | t :: ts => .agg t.cs :: Gl.ds ts
end
def Gl.d (t : Gl) : D := .agg t.cs
theorem Gl.ds_map : ∀ xs : List Gl, Gl.ds xs = xs.map Gl.d
 | [] => rfl
 | t :: ts => by simp only [Gl.ds, List.map_cons, Gl.ds_map ts]; rfl
theorem Gl.cs_length (t : Gl) : t.cs.length = 12 := by cases t; simp [Gl.cs, Tm.cs_length]
def kComma : ByteArray := ⟨#[44]⟩
def kSemi : ByteArray := ⟨#[59]⟩
def kTrue : ByteArray := ⟨#[116, 114, 117, 101]⟩
def kFail : ByteArray := ⟨#[102, 97, 105, 108]⟩
def kNot : ByteArray := ⟨#[110, 111, 116]⟩
def kThrow : ByteArray := ⟨#[116, 104, 114, 111, 119]⟩
def kTry : ByteArray := ⟨#[116, 114, 121]⟩
def kCatch : ByteArray := ⟨#[99, 97, 116, 99, 104]⟩
def kThen : ByteArray := ⟨#[116, 104, 101, 110]⟩
def kOpen : ByteArray := ⟨#[40]⟩
def kClose : ByteArray := ⟨#[41]⟩
def kEq : ByteArray := ⟨#[61]⟩
def rands (p : RdS → Gl × RdS) (l : List Tok) : Nat → List Gl → RdS → List Gl × RdS
 | 0, gs, s => (gs, s)
 | k + 1, gs, s => if (rgot l kComma s).1 = true then rands p l k (gs ++ [(p (rgot l kComma s).2).1]) (p (rgot l kComma s).2).2 else (gs, s)
def allOf (gs : List Gl) : Gl := if 1 < gs.length then .mk 5 .none .none ⟨#[]⟩ [] gs else gs.headD default
def rway (p : RdS → Gl × RdS) (l : List Tok) (s : RdS) : Gl × RdS := (allOf (rands p l l.length [(p s).1] (p s).2).1, (rands p l l.length [(p s).1] (p s).2).2)
def rors (p : RdS → Gl × RdS) (l : List Tok) : Nat → List Gl → RdS → List Gl × RdS
 | 0, os, s => (os, s)
 | k + 1, os, s => if s.err = 0 then (if (rgot l kSemi (rway p l s).2).1 = true then rors p l k (os ++ [(rway p l s).1]) (rgot l kSemi (rway p l s).2).2 else (os ++ [(rway p l s).1], (rway p l s).2)) else (os, s)
def anyOf (os : List Gl) : Gl := if os.length = 1 then os.headD default else .mk 6 .none .none ⟨#[]⟩ [] os
def rgoalW (p : RdS → Gl × RdS) (l : List Tok) (s : RdS) : Gl × RdS := (anyOf (rors p l (l.length + 1) [] s).1, (rors p l (l.length + 1) [] s).2)
def Tm.kind : Tm → Int
 | .mk k _ _ _ => k
def Tm.name : Tm → ByteArray
 | .mk _ n _ _ => n
def Tm.args : Tm → List Tm
 | .mk _ _ _ xs => xs
def rtry (p : RdS → Gl × RdS) (l : List Tok) (s : RdS) : Gl × RdS :=
 let a := p s
 let v := rword l 2 (rneed l kCatch a.2)
 let b := p (rneed l kThen v.2)
 (.mk 9 .none .none v.1 [] [a.1, b.1], b.2)
def rcall (f : Nat) (l : List Tok) (n : Nat) (s : RdS) : Gl × RdS :=
 let a := rterm f l (n + 1) s
 if (rgot l kEq a.2).1 = true then (.mk 3 a.1 (rterm f l (n + 1) (rgot l kEq a.2).2).1 ⟨#[]⟩ [] [], (rterm f l (n + 1) (rgot l kEq a.2).2).2)
 else (.mk 4 .none .none a.1.name a.1.args [], if a.1.kind = 3 then a.2 else rfail 2 a.2)
def rprim : Nat → List Tok → Nat → RdS → Gl × RdS
 | 0, _, _, s => (default, s)
 | f + 1, l, n, s0 =>
  let s := rnest l n s0
  if (rgot l kTrue s).1 = true then (.mk 1 .none .none ⟨#[]⟩ [] [], (rgot l kTrue s).2)
  else if (rgot l kFail s).1 = true then (.mk 2 .none .none ⟨#[]⟩ [] [], (rgot l kFail s).2)
  else if (rgot l kNot s).1 = true then (.mk 7 .none .none ⟨#[]⟩ [] [(rprim f l (n + 1) (rgot l kNot s).2).1], (rprim f l (n + 1) (rgot l kNot s).2).2)
  else if (rgot l kThrow s).1 = true then (.mk 8 (rterm f l (n + 1) (rgot l kThrow s).2).1 .none ⟨#[]⟩ [] [], (rterm f l (n + 1) (rgot l kThrow s).2).2)
  else if (rgot l kTry s).1 = true then rtry (rprim f l (n + 1)) l (rgot l kTry s).2
  else if (rgot l kOpen s).1 = true then ((rgoalW (rprim f l (n + 1)) l (rgot l kOpen s).2).1, rneed l kClose (rgoalW (rprim f l (n + 1)) l (rgot l kOpen s).2).2)
  else rcall f l n s
def rgoal (f : Nat) (l : List Tok) (n : Nat) (s : RdS) : Gl × RdS := rgoalW (rprim f l n) l s
structure Steps {α : Type} (l : List Tok) (p : RdS → α × RdS) : Prop where
 le : ∀ s, s.pos ≤ l.length → (p s).2.pos ≤ l.length
 ge : ∀ s, s.pos ≤ (p s).2.pos
theorem rargs_ge {α : Type} {p : RdS → α × RdS} {l : List Tok} (hp : ∀ s, s.pos ≤ (p s).2.pos) : ∀ (k : Nat) (xs : List α) (s : RdS), s.pos ≤ (rargs p l k xs s).2.pos
 | 0, _, _ => Nat.le_refl _
 | k + 1, xs, s => by
  simp only [rargs]
  repeat' split
  ·exact Nat.le_trans (rmore_ge ..) (Nat.le_trans (hp _) (rargs_ge hp k _ _))
  ·exact rmore_ge ..
  ·exact Nat.le_refl _
theorem rterm_ge {l : List Tok} : ∀ (f n : Nat) (s : RdS), s.pos ≤ (rterm f l n s).2.pos
 | 0, _, _ => Nat.le_refl _
 | f + 1, n, s => by
  have h1 := rnest_pos l n s
  have hw := Nat.le_trans (rword_ge l 1 (rnest l n s)) (rargs_ge (p := rterm f l (n + 1)) (fun s => rterm_ge f (n + 1) s) 10 [] (l := l) (rword l 1 (rnest l n s)).2)
  rw [h1] at hw
  simp only [rterm]
  repeat' split
  all_goals first | exact hw | (simp only; omega)
theorem rtype_ge {l : List Tok} : ∀ (f n : Nat) (s : RdS), s.pos ≤ (rtype f l n s).2.pos
 | 0, _, _ => Nat.le_refl _
 | f + 1, n, s => by
  have h1 := rnest_pos l n s
  have hw := Nat.le_trans (rword_ge l 1 (rnest l n s)) (rargs_ge (p := rtype f l (n + 1)) (fun s => rtype_ge f (n + 1) s) 10 [] (l := l) (rword l 1 (rnest l n s)).2)
  have hg := rgot_ge l kInt (rnest l n s)
  rw [h1] at hw hg
  simp only [rtype]
  repeat' split
  all_goals first | exact hw | exact hg | (simp only; omega)
theorem rterm_steps (l : List Tok) (f n : Nat) : Steps l (rterm f l n) := ⟨rterm_le f n, rterm_ge f n⟩
theorem rtype_steps (l : List Tok) (f n : Nat) : Steps l (rtype f l n) := ⟨rtype_le f n, rtype_ge f n⟩
theorem rands_steps {p : RdS → Gl × RdS} {l : List Tok} (hp : Steps l p) : ∀ (k : Nat) (gs : List Gl), Steps l (rands p l k gs)
 | 0, gs => ⟨fun _ h => h, fun _ => Nat.le_refl _⟩
 | k + 1, gs => by
  constructor
  ·intro s h
   simp only [rands]; split
   ·exact (rands_steps hp k _).le _ (hp.le _ (rgot_le h))
   ·exact h
  ·intro s
   simp only [rands]; split
   ·exact Nat.le_trans (rgot_ge ..) (Nat.le_trans (hp.ge _) ((rands_steps hp k _).ge _))
   ·exact Nat.le_refl _
theorem rway_steps {p : RdS → Gl × RdS} {l : List Tok} (hp : Steps l p) : Steps l (rway p l) :=
 ⟨fun s h => (rands_steps hp _ _).le _ (hp.le s h), fun s => Nat.le_trans (hp.ge s) ((rands_steps hp _ _).ge _)⟩
theorem rors_steps {p : RdS → Gl × RdS} {l : List Tok} (hp : Steps l p) : ∀ (k : Nat) (gs : List Gl), Steps l (rors p l k gs)
 | 0, gs => ⟨fun _ h => h, fun _ => Nat.le_refl _⟩
 | k + 1, gs => by
  constructor
  ·intro s h
   simp only [rors]; repeat' split
   ·exact (rors_steps hp k _).le _ (rgot_le ((rway_steps hp).le s h))
   ·exact (rway_steps hp).le s h
   ·exact h
  ·intro s
   simp only [rors]; repeat' split
   ·exact Nat.le_trans ((rway_steps hp).ge s) (Nat.le_trans (rgot_ge ..) ((rors_steps hp k _).ge _))
   ·exact (rway_steps hp).ge s
   ·exact Nat.le_refl _
theorem rgoalW_steps {p : RdS → Gl × RdS} {l : List Tok} (hp : Steps l p) : Steps l (rgoalW p l) := ⟨(rors_steps hp _ _).le, (rors_steps hp _ _).ge⟩
theorem rtry_steps {p : RdS → Gl × RdS} {l : List Tok} (hp : Steps l p) : Steps l (rtry p l) :=
 ⟨fun s h => hp.le _ (rneed_le (rword_le (rneed_le (hp.le s h)))), fun s => Nat.le_trans (hp.ge s) (Nat.le_trans (rneed_ge ..) (Nat.le_trans (rword_ge ..) (Nat.le_trans (rneed_ge ..) (hp.ge _))))⟩
theorem rcall_steps (f : Nat) (l : List Tok) (n : Nat) : Steps l (rcall f l n) := by
 have ht := rterm_steps l f (n + 1)
 constructor
 ·intro s h
  simp only [rcall]; split
  ·exact ht.le _ (rgot_le (ht.le s h))
  ·simp only; split
   ·exact ht.le s h
   ·rw [rfail_pos]; exact ht.le s h
 ·intro s
  simp only [rcall]; split
  ·exact Nat.le_trans (ht.ge s) (Nat.le_trans (rgot_ge ..) (ht.ge _))
  ·simp only; split
   ·exact ht.ge s
   ·rw [rfail_pos]; exact ht.ge s
theorem rprim_steps (l : List Tok) : ∀ (f n : Nat), Steps l (rprim f l n)
 | 0, n => ⟨fun _ h => h, fun _ => Nat.le_refl _⟩
 | f + 1, n => by
  have hp := rprim_steps l f (n + 1)
  have ht := rterm_steps l f (n + 1)
  constructor
  ·intro s0 h0
   have h : (rnest l n s0).pos ≤ l.length := by rw [rnest_pos]; exact h0
   simp only [rprim]
   repeat' split
   ·exact rgot_le h
   ·exact rgot_le h
   ·exact hp.le _ (rgot_le h)
   ·exact ht.le _ (rgot_le h)
   ·exact (rtry_steps hp).le _ (rgot_le h)
   ·exact rneed_le ((rgoalW_steps hp).le _ (rgot_le h))
   ·exact (rcall_steps f l n).le _ h
  ·intro s0
   have h := rnest_pos l n s0
   rw [← h]
   simp only [rprim]
   repeat' split
   ·exact rgot_ge ..
   ·exact rgot_ge ..
   ·exact Nat.le_trans (rgot_ge ..) (hp.ge _)
   ·exact Nat.le_trans (rgot_ge ..) (ht.ge _)
   ·exact Nat.le_trans (rgot_ge ..) ((rtry_steps hp).ge _)
   ·exact Nat.le_trans (rgot_ge ..) (Nat.le_trans ((rgoalW_steps hp).ge _) (rneed_ge ..))
   ·exact (rcall_steps f l n).ge _
end Go.Aug

/- Plain: the part of ParG that names no program. -/
namespace Go.Aug
set_option maxRecDepth 100000
set_option linter.unusedSimpArgs false
attribute [local irreducible] hid andK letA onSome onVar onArr arrOnly onInt onBool onTup idxA ldV ldD addO ofPart appTo fillL slA srcK nilQ retW gif sgd sguard svc sops sdops sagain aopO aLoad aStore aBin aUn aConv aLen aIndexAddr aIndex aIndexAddrS aIndexS aSlice aAppend aBuild aBuildSlice aMakeSlice aField aFieldOf aCallOp deepK deepL frzM putE newK newV growV ACall roundQ thenQ inBlockQ sret cnd szs nilC onRow aLookup aMapUpdate aMakeMap
attribute [local go_sem] Int.natCast_zero
def zGoal : List A := [.d (.int .i64 0), .d (.int .i64 0), .d (.str ⟨#[]⟩), .d (.int .i64 0), .nils, .d (.int .i64 0), .d (.str ⟨#[]⟩), .d (.int .i64 0), .nils, .d (.str ⟨#[]⟩), .nils, .nils]
theorem leH_add {N G : Heap} {b : Nat} {o : AObj} (h : LeH N G) (hb : G b = some o) : LeH (upd N b o) G := by
 intro k x hx
 unfold upd at hx
 split at hx
 ·rename_i e; subst e; cases hx; exact hb
 ·exact h k x hx
theorem leH_grow {N X : Heap} {d b : Nat} {o : AObj} (hX : LeH N X) (hd : N d = none) (hg : b = d ∨ X b = none) : LeH N (upd (del X d) b o) := by
 refine leH_upd ?_ (leH_del hd hX)
 rcases hg with rfl | h
 ·exact hd
 ·exact hX.free h
theorem leH_fresh {N X : Heap} {d b : Nat} (hX : LeH N X) (hg : b = d ∨ X b = none) (hd : N d = none) : N b = none := by
 rcases hg with rfl | h
 ·exact hd
 ·exact hX.free h

theorem rgot_nest {l : List Tok} {t : ByteArray} {n : Nat} {s : RdS} (h : (rgot l t (rnest l n s)).1 = true) : n ≤ 64 := by
 apply Classical.byContradiction
 intro hn
 have := rnest_deep (l := l) (s := s) (show 64 < n by omega)
 unfold rgot at h
 split at h
 ·rename_i hi
  simp only [ris, Bool.and_eq_true, Bool.not_eq_true'] at hi
  rw [this] at hi; cases hi.1
 ·cases h
theorem Gl.none_d (k : Int) : Gl.d (.mk k .none .none ⟨#[]⟩ [] []) = .agg [.int .i64 k, .int .i64 0, .str ⟨#[]⟩, .int .i64 0, .slice [], .int .i64 0, .str ⟨#[]⟩, .int .i64 0, .slice [], .str ⟨#[]⟩, .slice [], .slice []] := by
 simp [Gl.d, Gl.cs, Tm.none, Tm.cs, Tm.ds, Gl.ds]
theorem list12 {l : List D} (h : l.length = 12) : ∃ a b c d e f g h i j k m, l = [a, b, c, d, e, f, g, h, i, j, k, m] := by
 rcases l with _ | ⟨a, _ | ⟨b, _ | ⟨c, _ | ⟨d, _ | ⟨e, _ | ⟨f, _ | ⟨g, _ | ⟨h, _ | ⟨i, _ | ⟨j, _ | ⟨k, _ | ⟨m, _ | ⟨n, l⟩⟩⟩⟩⟩⟩⟩⟩⟩⟩⟩⟩⟩ <;> simp at h
 exact ⟨_, _, _, _, _, _, _, _, _, _, _, _, rfl⟩
theorem Gl.opn (g : Gl) : ∃ a b c d e f g' h i j k m, g.cs = [a, b, c, d, e, f, g', h, i, j, k, m] := list12 g.cs_length
end Go.Aug

/- Plain: the part of ParI that names no program. -/
namespace Go.Aug
set_option maxRecDepth 100000
set_option linter.unusedSimpArgs false
attribute [local irreducible] hid andK letA onSome onVar onArr arrOnly onInt onBool onTup idxA ldV ldD addO ofPart appTo fillL slA srcK nilQ retW gif sgd sguard svc sops sdops sagain aopO aLoad aStore aBin aUn aConv aLen aIndexAddr aIndex aIndexAddrS aIndexS aSlice aAppend aBuild aBuildSlice aMakeSlice aField aFieldOf aCallOp deepK deepL frzM putE newK newV growV ACall roundQ thenQ inBlockQ sret cnd szs nilC onRow aLookup aMapUpdate aMakeMap
structure Ct where
 name : ByteArray
 args : List Ty
 deriving Inhabited
def Ct.cs (c : Ct) : List D := [.str c.name, .slice (c.args.map Ty.d)]
def Ct.d (c : Ct) : D := .agg c.cs
structure It where
 kind : Int
 name : ByteArray
 vars : List ByteArray
 ctors : List Ct
 types : List Ty
 ways : List Bool
 det : Int
 args : List Tm
 body : Gl
instance : Inhabited It := ⟨⟨0, ⟨#[]⟩, [], [], [], [], 0, [], .mk 0 .none .none ⟨#[]⟩ [] []⟩⟩
def It.cs (i : It) : List D := [.int .i64 i.kind, .str i.name, .slice (i.vars.map .str), .slice (i.ctors.map Ct.d), .slice (i.types.map Ty.d), .slice (i.ways.map .bool), .int .i64 i.det, .slice (i.args.map Tm.d)] ++ i.body.cs
def It.d (i : It) : D := .agg i.cs
theorem It.cs_length (i : It) : i.cs.length = 20 := by simp [It.cs, Gl.cs_length]
def kType : ByteArray := ⟨#[116, 121, 112, 101]⟩
def kPred : ByteArray := ⟨#[112, 114, 101, 100]⟩
def kMode : ByteArray := ⟨#[109, 111, 100, 101]⟩
def kBar : ByteArray := ⟨#[124]⟩
def kIn : ByteArray := ⟨#[105, 110]⟩
def kOut : ByteArray := ⟨#[111, 117, 116]⟩
def kIs : ByteArray := ⟨#[105, 115]⟩
def kDet : ByteArray := ⟨#[100, 101, 116]⟩
def kSemi2 : ByteArray := ⟨#[115, 101, 109, 105, 100, 101, 116]⟩
def kMulti : ByteArray := ⟨#[109, 117, 108, 116, 105]⟩
def kNon : ByteArray := ⟨#[110, 111, 110, 100, 101, 116]⟩
def kIf : ByteArray := ⟨#[58, 45]⟩
def kDot : ByteArray := ⟨#[46]⟩
def rctor (l : List Tok) (s : RdS) : Ct × RdS :=
 (⟨(rword l 1 s).1, (rargs (rtype 66 l 1) l 10 [] (rword l 1 s).2).1⟩, (rargs (rtype 66 l 1) l 10 [] (rword l 1 s).2).2)
def rbars (l : List Tok) : Nat → List Ct → RdS → List Ct × RdS
 | 0, cs, s => (cs, s)
 | k + 1, cs, s => if (rgot l kBar s).1 = true then rbars l k (cs ++ [(rctor l (rgot l kBar s).2).1]) (rctor l (rgot l kBar s).2).2 else (cs, s)
def rwayIn (l : List Tok) (s : RdS) : Bool × RdS := if (rgot l kIn s).1 = true then (true, (rgot l kIn s).2) else (false, rneed l kOut s)
def rdet (l : List Tok) (s : RdS) : Int × RdS :=
 if (rgot l kDet s).1 = true then (1, (rgot l kDet s).2)
 else if (rgot l kSemi2 s).1 = true then (2, (rgot l kSemi2 s).2)
 else if (rgot l kMulti s).1 = true then (3, (rgot l kMulti s).2)
 else if (rgot l kNon s).1 = true then (4, (rgot l kNon s).2)
 else (0, rfail 2 s)
def ritType (l : List Tok) (s : RdS) : It × RdS :=
 let w := rword l 1 s
 let v := rargs (rword l 2) l 10 [] w.2
 let c := rctor l (rneed l kEq v.2)
 let b := rbars l l.length [c.1] c.2
 ({ (default : It) with kind := 1, name := w.1, vars := v.1, ctors := b.1 }, b.2)
def ritPred (l : List Tok) (s : RdS) : It × RdS :=
 let w := rword l 1 s
 let v := rargs (rtype 66 l 1) l 10 [] w.2
 ({ (default : It) with kind := 2, name := w.1, types := v.1 }, v.2)
def ritMode (l : List Tok) (s : RdS) : It × RdS :=
 let w := rword l 1 s
 let v := rargs (rwayIn l) l 10 [] w.2
 let d := rdet l (rneed l kIs v.2)
 ({ (default : It) with kind := 3, name := w.1, ways := v.1, det := d.1 }, d.2)
def ritClause (l : List Tok) (s : RdS) : It × RdS :=
 let w := rword l 1 s
 let v := rargs (rterm 66 l 1) l 10 [] w.2
 if (rgot l kIf v.2).1 = true then ({ (default : It) with kind := 4, name := w.1, args := v.1, body := (rgoal 66 l 1 (rgot l kIf v.2).2).1 }, (rgoal 66 l 1 (rgot l kIf v.2).2).2)
 else ({ (default : It) with kind := 4, name := w.1, args := v.1, body := .mk 1 .none .none ⟨#[]⟩ [] [] }, v.2)
def ritem (l : List Tok) (s : RdS) : It × RdS :=
 if (rgot l kType s).1 = true then ritType l (rgot l kType s).2
 else if (rgot l kPred s).1 = true then ritPred l (rgot l kPred s).2
 else if (rgot l kMode s).1 = true then ritMode l (rgot l kMode s).2
 else ritClause l s
def ritems (l : List Tok) : Nat → List It → RdS → List It × RdS
 | 0, is, s => (is, s)
 | k + 1, is, s => if rend l s = true then (is, s) else if is.length = 512 then (is, rfail 4 s) else ritems l k (is ++ [(ritem l s).1]) (rneed l kDot (ritem l s).2)
def rdone (l : List Tok) (s : RdS) : RdS := if s.err = 0 ∧ s.pos < l.length then ⟨s.pos, 2⟩ else s
def rsource (l : List Tok) (e : Int) : List It × Int :=
 let r := ritems l (l.length + 1) [] ⟨0, e⟩
 if (rdone l r.2).err ≠ 0 then ([], (rdone l r.2).err) else (r.1, 0)
theorem rargs_steps {α : Type} {p : RdS → α × RdS} {l : List Tok} (hp : Steps l p) (k : Nat) (xs : List α) : Steps l (rargs p l k xs) := ⟨rargs_le hp.le k xs, rargs_ge hp.ge k xs⟩
theorem rword_steps (l : List Tok) (k : Int) : Steps l (rword l k) := ⟨fun _ h => rword_le h, rword_ge l k⟩
theorem rctor_steps (l : List Tok) : Steps l (rctor l) :=
 ⟨fun s h => (rargs_steps (rtype_steps l 66 1) 10 []).le _ (rword_le h), fun s => Nat.le_trans (rword_ge l 1 s) ((rargs_steps (rtype_steps l 66 1) 10 []).ge _)⟩
theorem rbars_steps (l : List Tok) : ∀ (k : Nat) (cs : List Ct), Steps l (rbars l k cs)
 | 0, cs => ⟨fun s h => h, fun s => Nat.le_refl _⟩
 | k + 1, cs => by
  refine ⟨fun s h => ?_, fun s => ?_⟩
  ·simp only [rbars]; split
   ·exact (rbars_steps l k _).le _ ((rctor_steps l).le _ (rgot_le h))
   ·exact h
  ·simp only [rbars]; split
   ·exact Nat.le_trans (rgot_ge ..) (Nat.le_trans ((rctor_steps l).ge _) ((rbars_steps l k _).ge _))
   ·exact Nat.le_refl _
theorem rwayIn_steps (l : List Tok) : Steps l (rwayIn l) := by
 refine ⟨fun s h => ?_, fun s => ?_⟩
 ·unfold rwayIn; split
  ·exact rgot_le h
  ·exact rneed_le h
 ·unfold rwayIn; split
  ·exact rgot_ge ..
  ·exact rneed_ge ..
theorem rdet_steps (l : List Tok) : Steps l (rdet l) := by
 refine ⟨fun s h => ?_, fun s => ?_⟩
 ·unfold rdet; repeat' split
  ·exact rgot_le h
  ·exact rgot_le h
  ·exact rgot_le h
  ·exact rgot_le h
  ·rw [rfail_pos]; exact h
 ·unfold rdet; repeat' split
  ·exact rgot_ge ..
  ·exact rgot_ge ..
  ·exact rgot_ge ..
  ·exact rgot_ge ..
  ·rw [rfail_pos]; exact Nat.le_refl _
theorem ritType_steps (l : List Tok) : Steps l (ritType l) := by
 refine ⟨fun s h => ?_, fun s => ?_⟩
 ·exact (rbars_steps l _ _).le _ ((rctor_steps l).le _ (rneed_le ((rargs_steps (rword_steps l 2) 10 []).le _ (rword_le h))))
 ·exact Nat.le_trans (rword_ge ..) (Nat.le_trans ((rargs_steps (rword_steps l 2) 10 []).ge _) (Nat.le_trans (rneed_ge ..) (Nat.le_trans ((rctor_steps l).ge _) ((rbars_steps l _ _).ge _))))
theorem ritPred_steps (l : List Tok) : Steps l (ritPred l) := by
 refine ⟨fun s h => ?_, fun s => ?_⟩
 ·exact (rargs_steps (rtype_steps l 66 1) 10 []).le _ (rword_le h)
 ·exact Nat.le_trans (rword_ge ..) ((rargs_steps (rtype_steps l 66 1) 10 []).ge _)
theorem ritMode_steps (l : List Tok) : Steps l (ritMode l) := by
 refine ⟨fun s h => ?_, fun s => ?_⟩
 ·exact (rdet_steps l).le _ (rneed_le ((rargs_steps (rwayIn_steps l) 10 []).le _ (rword_le h)))
 ·exact Nat.le_trans (rword_ge ..) (Nat.le_trans ((rargs_steps (rwayIn_steps l) 10 []).ge _) (Nat.le_trans (rneed_ge ..) ((rdet_steps l).ge _)))
theorem rgoal_steps (l : List Tok) (f n : Nat) : Steps l (rgoal f l n) := rgoalW_steps (rprim_steps l f n)
theorem ritClause_steps (l : List Tok) : Steps l (ritClause l) := by
 refine ⟨fun s h => ?_, fun s => ?_⟩
 ·have h1 := (rargs_steps (rterm_steps l 66 1) 10 []).le _ (rword_le (kind := 1) h)
  simp only [ritClause]; split
  ·exact (rgoal_steps l 66 1).le _ (rgot_le h1)
  ·exact h1
 ·have h1 := Nat.le_trans (rword_ge l 1 s) ((rargs_steps (rterm_steps l 66 1) 10 []).ge _)
  simp only [ritClause]; split
  ·exact Nat.le_trans h1 (Nat.le_trans (rgot_ge ..) ((rgoal_steps l 66 1).ge _))
  ·exact h1
theorem ritem_steps (l : List Tok) : Steps l (ritem l) := by
 refine ⟨fun s h => ?_, fun s => ?_⟩
 ·unfold ritem; repeat' split
  ·exact (ritType_steps l).le _ (rgot_le h)
  ·exact (ritPred_steps l).le _ (rgot_le h)
  ·exact (ritMode_steps l).le _ (rgot_le h)
  ·exact (ritClause_steps l).le _ h
 ·unfold ritem; repeat' split
  ·exact Nat.le_trans (rgot_ge ..) ((ritType_steps l).ge _)
  ·exact Nat.le_trans (rgot_ge ..) ((ritPred_steps l).ge _)
  ·exact Nat.le_trans (rgot_ge ..) ((ritMode_steps l).ge _)
  ·exact (ritClause_steps l).ge _
end Go.Aug

/- Plain: the part of ParJ that names no program. -/
namespace Go.Aug
set_option maxRecDepth 100000
set_option linter.unusedSimpArgs false
attribute [local irreducible] hid andK letA onSome onVar onArr arrOnly onInt onBool onTup idxA ldV ldD addO ofPart appTo fillL slA srcK nilQ retW gif sgd sguard svc sops sdops sagain aopO aLoad aStore aBin aUn aConv aLen aIndexAddr aIndex aIndexAddrS aIndexS aSlice aAppend aBuild aBuildSlice aMakeSlice aField aFieldOf aCallOp deepK deepL frzM putE newK newV growV ACall roundQ thenQ inBlockQ sret cnd szs nilC onRow aLookup aMapUpdate aMakeMap
attribute [local go_sem] Int.natCast_zero
structure RowX (α : Type) where
 k : Nat
 xs : List α
 s : RdS
 a : A
 R : Heap
structure RowJ {α : Type} (H : Heap) (ks : List Nat) (E : TypeId) (sz : Nat) (dd : α → D) (p : RdS → α × RdS) (l : List Tok) (s0 : RdS) (x : RowX α) : Prop where
 acc : Acc H ks E sz (x.xs.map dd) x.a x.R
 le : x.s.pos ≤ l.length
 run : rargs p l x.k x.xs x.s = rargs p l 10 [] s0
 sum : x.k + x.xs.length = 10
 few : x.s.err = 0 → x.xs.length ≤ 8
 nine : x.xs.length ≤ 9
section
variable {α : Type} {H : Heap} {ks : List Nat} {E : TypeId} {sz : Nat} {dd : α → D} {p : RdS → α × RdS} {l : List Tok} {s0 : RdS} {x : RowX α}
theorem RowJ.first (hs : s0.pos ≤ l.length) : RowJ H ks E sz dd p l s0 ⟨10, [], s0, .nils, H⟩ := ⟨.nils .., hs, rfl, rfl, fun _ => by simp, by simp⟩
theorem RowJ.stop (h : RowJ H ks E sz dd p l s0 x) (he : x.s.err ≠ 0) : rargs p l 10 [] s0 = (x.xs, x.s) := by rw [← h.run, rargs_stop he]
theorem RowJ.done (h : RowJ H ks E sz dd p l s0 x) (he : x.s.err = 0) (hm : (rmore l x.xs.length x.s).1 = false) : rargs p l 10 [] s0 = (x.xs, (rmore l x.xs.length x.s).2) := by
 rw [← h.run]
 obtain ⟨k, hk⟩ : ∃ k, x.k = k + 1 := ⟨x.k - 1, by have := h.sum; have := h.nine; omega⟩
 rw [hk]; simp [rargs, he, hm]
theorem RowJ.next (h : RowJ H ks E sz dd p l s0 x) (hp : Steps l p) (hend : ∀ s, rend l s = true → (p s).2.err ≠ 0) (he : x.s.err = 0) (hm : (rmore l x.xs.length x.s).1 = true) {a' : A} {R' : Heap}
  (hacc : Acc H ks E sz ((x.xs ++ [(p (rmore l x.xs.length x.s).2).1]).map dd) a' R') : RowJ H ks E sz dd p l s0 ⟨x.k - 1, x.xs ++ [(p (rmore l x.xs.length x.s).2).1], (p (rmore l x.xs.length x.s).2).2, a', R'⟩ ∧ x.k - 1 < x.k := by
 obtain ⟨k, hk⟩ : ∃ k, x.k = k + 1 := ⟨x.k - 1, by have := h.sum; have := h.nine; omega⟩
 have hrun := h.run
 have hsum := h.sum
 have hfew := h.few he
 rw [hk] at hrun hsum ⊢
 refine ⟨⟨hacc, hp.le _ (rmore_le h.le), ?_, ?_, ?_, ?_⟩, by omega⟩
 ·rw [← hrun]; simp [rargs, he, hm]
 ·simp only [List.length_append, List.length_cons, List.length_nil]; omega
 ·intro he'
  simp only [List.length_append, List.length_cons, List.length_nil]
  rcases Nat.lt_or_ge x.xs.length 8 with h8 | h8
  ·omega
  ·exact absurd he' (hend _ ((rmore_true hm).2.2 (by omega)))
 ·simp only [List.length_append, List.length_cons, List.length_nil]; omega
end
end Go.Aug

/- Plain: the part of ParK that names no program. -/
namespace Go.Aug
set_option maxRecDepth 100000
set_option linter.unusedSimpArgs false
attribute [local irreducible] hid andK letA onSome onVar onArr arrOnly onInt onBool onTup idxA ldV ldD addO ofPart appTo fillL slA srcK nilQ retW gif sgd sguard svc sops sdops sagain aopO aLoad aStore aBin aUn aConv aLen aIndexAddr aIndex aIndexAddrS aIndexS aSlice aAppend aBuild aBuildSlice aMakeSlice aField aFieldOf aCallOp deepK deepL frzM putE newK newV growV ACall roundQ thenQ inBlockQ sret cnd szs nilC onRow aLookup aMapUpdate aMakeMap
attribute [local go_sem] Int.natCast_zero
theorem rword_end {l : List Tok} {k : Int} {s : RdS} (h : rend l s = true) : (rword l k s).2.err ≠ 0 := by
 have : rword l k s = (⟨#[]⟩, rfail 2 s) := by simp [rword, h]
 rw [this]; exact rfail_err (by decide) s
theorem rgot_end {l : List Tok} {t : ByteArray} {s : RdS} (h : rend l s = true) : rgot l t s = (false, s) := by
 simp [rgot, ris, h]
theorem rneed_end {l : List Tok} {t : ByteArray} {s : RdS} (h : rend l s = true) : (rneed l t s).err ≠ 0 := by
 unfold rneed
 rw [rgot_end h]
 split
 ·simp only [Bool.false_eq_true, if_false]; exact rfail_err (by decide) s
 ·assumption
theorem rwayIn_end {l : List Tok} {s : RdS} (h : rend l s = true) : (rwayIn l s).2.err ≠ 0 := by
 unfold rwayIn
 rw [rgot_end h]
 simp only [Bool.false_eq_true, if_false]
 exact rneed_end h

def isDig (c : UInt8) : Bool := decide ((48 : Int) ≤ (c.toNat : Int)) && decide ((c.toNat : Int) ≤ 57)
def isSmall (c : UInt8) : Bool := decide ((97 : Int) ≤ (c.toNat : Int)) && decide ((c.toNat : Int) ≤ 122)
def isLet (c : UInt8) : Bool := isSmall c || (decide ((65 : Int) ≤ (c.toNat : Int)) && decide ((c.toNat : Int) ≤ 90)) || decide ((c.toNat : Int) = 95)
def xOf (c : UInt8) : Int := IntKind.i64.wrap (IntKind.u8.wrap ((c.toNat : Int) - 48))
def intStop (n : Int) (c : UInt8) : Bool := decide ((c.toNat : Int) < 48) || decide ((57 : Int) < (c.toNat : Int)) || decide (n < IntKind.i64.wrap (Int.tdiv (IntKind.i64.wrap (-9223372036854775808 + xOf c)) 10))
def rIntLoop (d : ByteArray) : Nat → Int → Nat → Option Int
 | 0, n, _ => some n
 | k + 1, n, i => match d[i]? with
  | none => some n
  | some c => if intStop n c = true then none else rIntLoop d k (IntKind.i64.wrap (IntKind.i64.wrap (10 * n) - xOf c)) (i + 1)
def byteIs (s : ByteArray) (n : Nat) (c : Int) : Bool := match s[n]? with
 | some b => decide ((b.toNat : Int) = c)
 | none => false
def rIntCut (s : ByteArray) : ByteArray := if byteIs s 0 45 = true then s.extract 1 s.size else s
def rInt (s : ByteArray) : Int × Bool :=
 if (rIntCut s).size = 0 ∨ 19 < (rIntCut s).size ∨ (byteIs (rIntCut s) 0 48 = true ∧ 1 < s.size) then (0, false)
 else match rIntLoop (rIntCut s) (rIntCut s).size 0 0 with
  | none => (0, false)
  | some n => if byteIs s 0 45 = true then (n, true) else if n = -9223372036854775808 then (0, false) else (IntKind.i64.wrap (0 - n), true)
theorem at_lt {s : ByteArray} {n : Nat} (h : n < s.size) : ∃ c, s[n]? = some c := ⟨s[n], by simp [h]⟩
def runTo (p : UInt8 → Bool) (s : ByteArray) : Nat → Nat → Nat
 | 0, n => n
 | k + 1, n => match s[n]? with
  | some c => if p c = true then runTo p s k (n + 1) else n
  | none => n
theorem runTo_le {p : UInt8 → Bool} {s : ByteArray} : ∀ (k n : Nat), n ≤ s.size → n ≤ runTo p s k n ∧ runTo p s k n ≤ s.size
 | 0, n, h => ⟨Nat.le_refl _, h⟩
 | k + 1, n, h => by
  simp only [runTo]
  split
  ·rename_i c hc
   have hlt : n < s.size := by
    apply Classical.byContradiction; intro hn
    simp [hn] at hc
   split
   ·have := runTo_le (p := p) k (n + 1) hlt; omega
   ·exact ⟨Nat.le_refl _, h⟩
  ·exact ⟨Nat.le_refl _, h⟩
def kMarks : List Nat := [40, 41, 44, 46, 59, 124, 61]
def wordAl (s : ByteArray) (at_ : Nat) (c : UInt8) : Tok × Bool :=
 (⟨if isSmall c = true then 1 else 2, s.extract at_ (runTo (fun c => isLet c || isDig c) s s.size at_), 0⟩, decide (runTo (fun c => isLet c || isDig c) s s.size at_ - at_ ≤ 32))
def letAt (s : ByteArray) (n : Nat) : Bool := match s[n]? with
 | some c => isLet c
 | none => false
def wordInt (s : ByteArray) (at_ : Nat) : Tok × Bool :=
 (⟨3, s.extract at_ (runTo isDig s s.size (at_ + 1)), (rInt (s.extract at_ (runTo isDig s s.size (at_ + 1)))).1⟩,
  (rInt (s.extract at_ (runTo isDig s s.size (at_ + 1)))).2 && (decide (runTo isDig s s.size (at_ + 1) = s.size) || !letAt s (runTo isDig s s.size (at_ + 1))))
def rWord (s : ByteArray) (at_ : Nat) (c : UInt8) : Tok × Bool :=
 if isLet c = true then wordAl s at_ c
 else if isDig c = true ∨ (c.toNat : Int) = 45 then wordInt s at_
 else if (c.toNat : Int) = 58 ∧ at_ + 1 < s.size ∧ byteIs s (at_ + 1) 45 = true then (⟨4, ⟨#[58, 45]⟩, 0⟩, true)
 else if kMarks.contains c.toNat = true then (⟨4, s.extract at_ (at_ + 1), 0⟩, true)
 else (⟨0, ⟨#[]⟩, 0⟩, false)

theorem runTo_end {p : UInt8 → Bool} {s : ByteArray} {k n : Nat} (h : s.size ≤ n) : runTo p s k n = n := by
 cases k with
 | zero => rfl
 | succ k => simp [runTo, Nat.not_lt.2 h]
theorem runTo_no {p : UInt8 → Bool} {s : ByteArray} {k n : Nat} {c : UInt8} (hc : s[n]? = some c) (h : p c = false) : runTo p s k n = n := by
 cases k with
 | zero => rfl
 | succ k => simp [runTo, hc, h]

def isBlank (c : UInt8) : Bool := decide ((c.toNat : Int) = 9) || decide ((c.toNat : Int) = 10) || decide ((c.toNat : Int) = 13) || decide ((c.toNat : Int) = 32)
def rAll (s : ByteArray) : Nat → Nat → Bool → List Int → List Tok → List Int × List Tok × Bool
 | 0, _, _, pl, ts => (pl, ts, true)
 | k + 1, p, cm, pl, ts => match s[p]? with
  | none => (pl, ts, true)
  | some c => if cm = true then rAll s k (p + 1) (!decide ((c.toNat : Int) = 10)) pl ts
   else if isBlank c = true then rAll s k (p + 1) false pl ts
   else if (c.toNat : Int) = 37 then rAll s k (p + 1) true pl ts
   else if (rWord s p c).2 = true then rAll s k (p + (rWord s p c).1.text.size) false (pl ++ [(p : Int)]) (ts ++ [(rWord s p c).1])
   else (pl, ts, false)
theorem rWord_size {s : ByteArray} {p : Nat} {c : UInt8} (hp : s[p]? = some c) (h : (rWord s p c).2 = true) : 1 ≤ (rWord s p c).1.text.size ∧ p + (rWord s p c).1.text.size ≤ s.size := by
 have hlt : p < s.size := by
  apply Classical.byContradiction; intro hn
  simp [hn] at hp
 unfold rWord at h ⊢
 split
 ·rename_i hl
  simp only [wordAl, ByteArray.size_extract]
  have h1 := runTo_le (p := fun c => isLet c || isDig c) (s := s) s.size p (Nat.le_of_lt hlt)
  have h2 : p + 1 ≤ runTo (fun c => isLet c || isDig c) s s.size p := by
   obtain ⟨k, hk⟩ : ∃ k, s.size = k + 1 := ⟨s.size - 1, by omega⟩
   rw [hk]
   simp only [runTo, hp, hl, Bool.true_or, if_true]
   exact (runTo_le k (p + 1) hlt).1
  omega
 ·rename_i hl
  rw [if_neg hl] at h
  split
  ·simp only [wordInt, ByteArray.size_extract]
   have := runTo_le (p := isDig) (s := s) s.size (p + 1) hlt
   omega
  ·rename_i h2
   rw [if_neg h2] at h
   split
   ·rename_i h3
    exact ⟨by decide, by have : (ByteArray.mk #[58, 45]).size = 2 := rfl; have := h3.2.1; simp only; omega⟩
   ·rename_i h3
    rw [if_neg h3] at h
    split
    ·simp only [ByteArray.size_extract]; omega
    ·rename_i h4
     rw [if_neg h4] at h; cases h
structure AllX where
 k : Nat
 p : Nat
 cm : Bool
 pl : List Int
 ts : List Tok
 b : Nat
 v : Value
 c : Nat
 w : Value

theorem rAll_len {s : ByteArray} : ∀ (k p : Nat) (cm : Bool) (pl : List Int) (ts : List Tok), p ≤ s.size → ts.length ≤ p → (rAll s k p cm pl ts).2.1.length ≤ s.size
 | 0, p, cm, pl, ts, h1, h2 => by simp only [rAll]; omega
 | k + 1, p, cm, pl, ts, h1, h2 => by
  simp only [rAll]
  split
  ·simp only; omega
  ·rename_i c hc
   have hlt : p < s.size := by
    apply Classical.byContradiction; intro hn
    simp [hn] at hc
   repeat' split
   ·exact rAll_len k _ _ _ _ hlt (by omega)
   ·exact rAll_len k _ _ _ _ hlt (by omega)
   ·exact rAll_len k _ _ _ _ hlt (by omega)
   ·rename_i h
    have := rWord_size hc h
    exact rAll_len k _ _ _ _ this.2 (by simp only [List.length_append, List.length_cons, List.length_nil]; omega)
   ·simp only; omega
def rlex (s : ByteArray) : List Tok × Int :=
 if 16384 < s.size then ([], 4) else if (rAll s s.size 0 false [] []).2.2 = true then ((rAll s s.size 0 false [] []).2.1, 0) else ([], 1)
theorem rlex_len (s : ByteArray) : (rlex s).1.length ≤ 16384 := by
 unfold rlex
 repeat' split
 ·simp
 ·exact Nat.le_trans (rAll_len _ _ _ _ _ (Nat.zero_le _) (by simp)) (by omega)
 ·simp
end Go.Aug

/- Plain: a row of things, as the program's parser reads it. -/
namespace Go.Aug
set_option maxRecDepth 100000
set_option linter.unusedSimpArgs false
theorem rend_eq {l : List Tok} {s : RdS} (he : s.err = 0) : rend l s = decide (l.length ≤ s.pos) := by simp [rend, he]
def rowHd {α : Type} (q : RdS → α × RdS) (l : List Tok) (k : Nat) (xs : List α) (s : RdS) : List α × RdS :=
 if (rmoreFin l xs.length s).1 = true then rargs q l k (xs ++ [(q (rmoreFin l xs.length s).2).1]) (q (rmoreFin l xs.length s).2).2 else (xs, (rmoreFin l xs.length s).2)
theorem rargs_open {α : Type} {q : RdS → α × RdS} {l : List Tok} {k : Nat} {s : RdS} (he : s.err = 0) : rargs q l (k + 1) [] s = if (rgot l ⟨#[40]⟩ s).1 = true then rowHd q l k [] (rgot l ⟨#[40]⟩ s).2 else ([], s) := by
 simp only [rargs, if_pos he, rmore, List.length_nil, if_true, rowHd]
 cases h : (rgot l ⟨#[40]⟩ s).1 with
 | true => simp only [if_true]
 | false => simp only [Bool.false_eq_true, if_false, rgot_false h]
theorem rowHd_bad {α : Type} {q : RdS → α × RdS} {l : List Tok} {k : Nat} {xs : List α} {s : RdS} (he : s.err = 0) (h8 : xs.length = 8) (hl : s.pos < l.length) : rowHd q l k xs s = (xs, ⟨s.pos, 4⟩) := by
 have hr : rend l s = false := by rw [rend_eq he]; simp; omega
 have hf : rmoreFin l xs.length s = (false, ⟨s.pos, 4⟩) := by
  rw [rmoreFin, if_pos ⟨h8, hr⟩, rfail, if_pos he]; rfl
 rw [rowHd, hf]; simp only [Bool.false_eq_true, if_false]
theorem rowHd_go {α : Type} {q : RdS → α × RdS} {l : List Tok} {k : Nat} {xs : List α} {s : RdS} (he : s.err = 0) (h : ¬ (xs.length = 8 ∧ s.pos < l.length)) : rowHd q l k xs s = rargs q l k (xs ++ [(q s).1]) (q s).2 := by
 have hf : rmoreFin l xs.length s = (true, s) := by
  rw [rmoreFin, if_neg, he]; rfl
  rintro ⟨h1, h2⟩
  rw [rend_eq he] at h2
  exact h ⟨h1, by simpa using h2⟩
 rw [rowHd, hf]; simp only [if_true]
theorem rargs_close {α : Type} {q : RdS → α × RdS} {l : List Tok} {k : Nat} {xs : List α} {s : RdS} (he : s.err = 0) (hx : xs ≠ []) (hg : (rgot l ⟨#[41]⟩ s).1 = true) : rargs q l (k + 1) xs s = (xs, (rgot l ⟨#[41]⟩ s).2) := by
 have h0 : ¬ xs.length = 0 := fun e => hx (List.length_eq_zero_iff.1 e)
 have e : rmore l xs.length s = (false, (rgot l ⟨#[41]⟩ s).2) := by rw [rmore, if_neg h0, if_pos (.inl hg)]
 simp only [rargs, if_pos he, e, Bool.false_eq_true, if_false]
theorem rargs_comma {α : Type} {q : RdS → α × RdS} {l : List Tok} {k : Nat} {xs : List α} {s : RdS} (he : s.err = 0) (hx : xs ≠ []) (hg : (rgot l ⟨#[41]⟩ s).1 = false) :
  rargs q l (k + 1) xs s = if (rneed l ⟨#[44]⟩ s).err = 0 then rowHd q l k xs (rneed l ⟨#[44]⟩ s) else (xs, rneed l ⟨#[44]⟩ s) := by
 have h0 : ¬ xs.length = 0 := fun e => hx (List.length_eq_zero_iff.1 e)
 have e : rmore l xs.length s = rmoreFin l xs.length (rneed l ⟨#[44]⟩ s) := by
  rw [rmore, if_neg h0, rgot_false hg, if_neg]
  rintro (h | h)
  ·rw [hg] at h; cases h
  ·exact h he
 simp only [rargs, if_pos he, e]
 by_cases h1 : (rneed l ⟨#[44]⟩ s).err = 0
 ·rw [if_pos h1, rowHd]
 ·have hf : rmoreFin l xs.length (rneed l ⟨#[44]⟩ s) = (false, rneed l ⟨#[44]⟩ s) := by
   rw [rmoreFin, if_neg]
   ·simp [h1]
   ·rintro ⟨_, h2⟩
    exact h1 (rend_tok h2).1
  rw [if_neg h1, hf]; simp only [Bool.false_eq_true, if_false]
@[go_sem] theorem deepL_map {H : Heap} : ∀ {ds : List D} {K : List D → Heap → Prop}, deepL H (ds.map A.d) K = K ds H
 | [], K => by simp only [List.map_nil, deepL]
 | d :: ds, K => by simp only [List.map_cons, deepL, deepK]; exact deepL_map (ds := ds) (K := fun ds H => K (d :: ds) H)
structure PRow (α : Type) where
 k : Nat
 xs : List α
 s : RdS
 a : A
 R : Heap
def rpeek (l : List Tok) (n : Nat) : Tok := match l[n]? with
 | some t => t
 | none => ⟨0, ⟨#[]⟩, 0⟩
theorem rpeek_some {l : List Tok} {n : Nat} {t : Tok} (h : l[n]? = some t) : rpeek l n = t := by rw [rpeek, h]
theorem rpeek_none {l : List Tok} {n : Nat} (h : l.length ≤ n) : rpeek l n = ⟨0, ⟨#[]⟩, 0⟩ := by rw [rpeek, List.getElem?_eq_none h]
theorem rnest_is {l : List Tok} {n : Nat} {s : RdS} (he : s.err = 0) : rnest l n s = if 64 < n ∧ s.pos < l.length then ⟨s.pos, 3⟩ else s := by
 unfold rnest rend rfail
 rw [he]
 by_cases h : s.pos < l.length
 ·have h2 : ¬ l.length ≤ s.pos := by omega
  simp [h, h2]
 ·have h2 : l.length ≤ s.pos := by omega
  simp [h, h2]
theorem rnest_ok {l : List Tok} {n : Nat} {s : RdS} (he : s.err = 0) (h : (rnest l n s).err = 0) : rnest l n s = s := by
 rw [rnest_is he] at h ⊢
 split at h
 ·cases h
 ·rename_i hh; rw [if_neg hh]
theorem rword_err {l : List Tok} {k : Int} {s : RdS} (h : s.err ≠ 0) : rword l k s = (⟨#[]⟩, s) := by
 have hr : rend l s = true := by simp [rend, h]
 simp [rword, hr, rfail, h]
theorem rgot_errs {l : List Tok} {t : ByteArray} {s : RdS} (h : s.err ≠ 0) : rgot l t s = (false, s) := by
 have hr : rend l s = true := by simp [rend, h]
 simp [rgot, ris, hr]
theorem rneed_err {l : List Tok} {t : ByteArray} {s : RdS} (h : s.err ≠ 0) : rneed l t s = s := by rw [rneed, if_neg h]
theorem rnest_err {l : List Tok} {n : Nat} {s : RdS} (h : s.err ≠ 0) : rnest l n s = s := by
 have hr : rend l s = true := by simp [rend, h]
 simp [rnest, hr]
def Sticky {α : Type} (q : RdS → α × RdS) : Prop := ∀ s, s.err ≠ 0 → (q s).2.err = s.err
theorem rterm_sticky (l : List Tok) : ∀ (f n : Nat), Sticky (rterm f l n)
 | 0, n, s, h => rfl
 | f + 1, n, s, h => by
  have hr : rend l s = true := by simp [rend, h]
  simp only [rterm, rnest_err h, hr, if_true, rword_err h, rargs_stop h]
theorem rterm_is {f n : Nat} {l : List Tok} {s : RdS} (he : s.err = 0) (h : (rnest l n s).err = 0) : rterm (f + 1) l n s =
  if (rpeek l s.pos).kind = 2 then (.mk 1 (rpeek l s.pos).text 0 [], ⟨s.pos + 1, 0⟩) else if (rpeek l s.pos).kind = 3 then (.mk 2 ⟨#[]⟩ (rpeek l s.pos).int [], ⟨s.pos + 1, 0⟩)
  else (.mk 3 (rword l 1 s).1 0 (rargs (rterm f l (n + 1)) l 10 [] (rword l 1 s).2).1, (rargs (rterm f l (n + 1)) l 10 [] (rword l 1 s).2).2) := by
 have hn := rnest_ok he h
 cases hk : l[s.pos]? with
 | none =>
  have hl := List.getElem?_eq_none_iff.1 hk
  have hr : rend l s = true := by rw [rend_eq he]; simp [hl]
  rw [rpeek_none hl]
  simp only [rterm, hn, hr, if_true]
  rw [if_neg (by decide), if_neg (by decide)]
 | some k =>
  have hl := (List.getElem?_eq_some_iff.1 hk).1
  have hr : rend l s = false := by rw [rend_eq he]; simp; omega
  rw [rpeek_some hk]
  simp only [rterm, hn, hr, hk, Bool.false_eq_true, if_false, he]
  by_cases h3 : k.kind = 3
  ·rw [if_pos h3, if_neg (by omega), if_pos h3]
  ·rw [if_neg h3]
   by_cases h2 : k.kind = 2
   ·rw [if_pos h2, if_pos h2]
   ·rw [if_neg h2, if_neg h2, if_neg h3]
theorem rtype_is {f n : Nat} {l : List Tok} {s : RdS} (he : s.err = 0) (h : (rnest l n s).err = 0) : rtype (f + 1) l n s =
  if (rpeek l s.pos).kind = 2 then (.mk true (rpeek l s.pos).text [], ⟨s.pos + 1, 0⟩) else if (rgot l kInt s).1 = true then (.mk false kInt [], (rgot l kInt s).2)
  else (.mk false (rword l 1 s).1 (rargs (rtype f l (n + 1)) l 10 [] (rword l 1 s).2).1, (rargs (rtype f l (n + 1)) l 10 [] (rword l 1 s).2).2) := by
 have hn := rnest_ok he h
 cases hk : l[s.pos]? with
 | none =>
  have hl := List.getElem?_eq_none_iff.1 hk
  have hr : rend l s = true := by rw [rend_eq he]; simp [hl]
  have hv : varTok l s = none := by rw [varTok, if_pos hr]
  rw [rpeek_none hl]
  simp only [rtype, hn, hv]
  rw [if_neg (c := (0 : Int) = 2) (by decide)]
 | some k =>
  have hl := (List.getElem?_eq_some_iff.1 hk).1
  have hr : rend l s = false := by rw [rend_eq he]; simp; omega
  rw [rpeek_some hk]
  by_cases h2 : k.kind = 2
  ·have hv : varTok l s = some k := by simp [varTok, hr, hk, h2]
   rw [if_pos h2]
   simp only [rtype, hn, hv, he]
  ·have hv : varTok l s = none := by simp [varTok, hr, hk, h2]
   rw [if_neg h2]
   simp only [rtype, hn, hv]

def rjoin (q : RdS → Gl × RdS) (m : ByteArray) (l : List Tok) : Nat → List Gl → RdS → List Gl × RdS
 | 0, gs, s => (gs, s)
 | k + 1, gs, s => if (rgot l m s).1 = true then rjoin q m l k (gs ++ [(q (rgot l m s).2).1]) (q (rgot l m s).2).2 else (gs, s)
def joinOf (kind : Int) (gs : List Gl) : Gl := if gs.length = 1 then gs.headD default else .mk kind .none .none ⟨#[]⟩ [] gs
def rjoined (kind : Int) (m : ByteArray) (q : RdS → Gl × RdS) (l : List Tok) (s : RdS) : Gl × RdS :=
 (joinOf kind (rjoin q m l l.length [(q s).1] (q s).2).1, (rjoin q m l l.length [(q s).1] (q s).2).2)
theorem rjoin_err {q : RdS → Gl × RdS} {m : ByteArray} {l : List Tok} {k : Nat} {gs : List Gl} {s : RdS} (h : s.err ≠ 0) : rjoin q m l k gs s = (gs, s) := by
 cases k with
 | zero => rfl
 | succ k => simp only [rjoin, rgot_errs h, Bool.false_eq_true, if_false]
theorem rjoin_ne {q : RdS → Gl × RdS} {m : ByteArray} {l : List Tok} : ∀ (k : Nat) (gs : List Gl) (s : RdS), gs ≠ [] → (rjoin q m l k gs s).1 ≠ []
 | 0, _, _, h => h
 | k + 1, gs, s, h => by
  simp only [rjoin]; split
  ·exact rjoin_ne k _ _ (by simp)
  ·exact h
theorem rjoin_steps {q : RdS → Gl × RdS} {m : ByteArray} {l : List Tok} (hq : Steps l q) : ∀ (k : Nat) (gs : List Gl), Steps l (rjoin q m l k gs)
 | 0, _ => ⟨fun _ h => h, fun _ => Nat.le_refl _⟩
 | k + 1, gs => by
  constructor
  ·intro s h
   simp only [rjoin]; split
   ·exact (rjoin_steps hq k _).le _ (hq.le _ (rgot_le h))
   ·exact h
  ·intro s
   simp only [rjoin]; split
   ·exact Nat.le_trans (rgot_ge ..) (Nat.le_trans (hq.ge _) ((rjoin_steps hq k _).ge _))
   ·exact Nat.le_refl _
theorem rjoined_steps {kind : Int} {m : ByteArray} {q : RdS → Gl × RdS} {l : List Tok} (hq : Steps l q) : Steps l (rjoined kind m q l) :=
 ⟨fun s h => (rjoin_steps hq _ _).le _ (hq.le s h), fun s => Nat.le_trans (hq.ge s) ((rjoin_steps hq _ _).ge _)⟩
theorem rands_join (q : RdS → Gl × RdS) (l : List Tok) : ∀ (k : Nat) (gs : List Gl) (s : RdS), rands q l k gs s = rjoin q kComma l k gs s
 | 0, _, _ => rfl
 | k + 1, gs, s => by simp only [rands, rjoin, rands_join q l k]
theorem rway_join (q : RdS → Gl × RdS) (l : List Tok) (s : RdS) : rway q l s = rjoined 5 kComma q l s := by
 have hne := rjoin_ne (q := q) (m := kComma) (l := l) l.length [(q s).1] (q s).2 (by simp)
 rw [rway, rands_join, rjoined]
 congr 1
 generalize (rjoin q kComma l l.length [(q s).1] (q s).2).1 = gs at hne ⊢
 unfold allOf joinOf
 have : 0 < gs.length := List.length_pos_iff.2 hne
 by_cases h : gs.length = 1
 ·rw [if_pos h, if_neg (by omega)]
 ·rw [if_neg h, if_pos (by omega)]
theorem rway_steps' {q : RdS → Gl × RdS} {l : List Tok} (hq : Steps l q) : Steps l (rway q l) := by
 have := rjoined_steps (kind := 5) (m := kComma) hq
 exact ⟨fun s h => by rw [rway_join]; exact this.le s h, fun s => by rw [rway_join]; exact this.ge s⟩
theorem rors_join {q : RdS → Gl × RdS} {l : List Tok} (hq : Steps l q) : ∀ (k : Nat) (os : List Gl) (s : RdS), s.err = 0 → l.length ≤ k + s.pos → rors q l (k + 1) os s = rjoin (rway q l) kSemi l k (os ++ [(rway q l s).1]) (rway q l s).2
 | 0, os, s, he, hk => by
  have hge := (rway_steps' hq).ge s
  have hno : (rgot l kSemi (rway q l s).2).1 = false := by
   cases h : (rgot l kSemi (rway q l s).2).1 with
   | false => rfl
   | true => have := (rgot_true h).2.2; omega
  simp only [rors, rjoin, if_pos he, hno, Bool.false_eq_true, if_false]
 | k + 1, os, s, he, hk => by
  have hge := (rway_steps' hq).ge s
  rw [rors, rjoin, if_pos he]
  cases h : (rgot l kSemi (rway q l s).2).1 with
  | false => simp only [Bool.false_eq_true, if_false]
  | true =>
   obtain ⟨h1, h2, h3⟩ := rgot_true h
   simp only [if_true]
   exact rors_join hq k _ _ (by rw [rgot_err]; exact h1) (by omega)
theorem rgoal_join {q : RdS → Gl × RdS} {l : List Tok} (hq : Steps l q) {s : RdS} (he : s.err = 0) : rgoalW q l s = rjoined 6 kSemi (rjoined 5 kComma q l) l s := by
 have e : rway q l = rjoined 5 kComma q l := funext (rway_join q l)
 rw [rgoalW, rors_join hq l.length [] s he (by omega), e, rjoined]
 rfl
theorem rprim_sticky (l : List Tok) : ∀ (f n : Nat), Sticky (rprim f l n)
 | 0, n, s, h => rfl
 | f + 1, n, s, h => by
  have ht := rterm_sticky l f (n + 1) s h
  have ht2 : (rterm f l (n + 1) s).2.err ≠ 0 := by rw [ht]; exact h
  simp only [rprim, rnest_err h, rgot_errs h, Bool.false_eq_true, if_false, rcall, rgot_errs ht2, rfail, if_neg ht2]
  split <;> exact ht
theorem rprim_nerr {l : List Tok} {f n : Nat} {s : RdS} (h : (rnest l n s).err ≠ 0) : (rprim (f + 1) l n s).2.err = (rnest l n s).err := by
 have ht := rterm_sticky l f (n + 1) _ h
 have ht2 : (rterm f l (n + 1) (rnest l n s)).2.err ≠ 0 := by rw [ht]; exact h
 simp only [rprim, rgot_errs h, Bool.false_eq_true, if_false, rcall, rgot_errs ht2, rfail, if_neg ht2]
 split <;> exact ht
theorem rnest_64 {l : List Tok} {n : Nat} {s : RdS} (he : s.err = 0) (h : (rnest l n s).err = 0) (hl : s.pos < l.length) : n ≤ 64 := by
 rw [rnest_is he] at h
 apply Classical.byContradiction; intro hh
 rw [if_pos ⟨by omega, hl⟩] at h
 cases h
theorem rtry_is {q : RdS → Gl × RdS} {l : List Tok} {s : RdS} (hq : Sticky q) : (rtry q l s).1 = .mk 9 .none .none (rword l 2 (rneed l kCatch (q s).2)).1 [] [(q s).1, (q (rneed l kThen (rword l 2 (rneed l kCatch (q s).2)).2)).1] ∧ (rtry q l s).2 = (q (rneed l kThen (rword l 2 (rneed l kCatch (q s).2)).2)).2 := ⟨rfl, rfl⟩
theorem rtry_e1 {q : RdS → Gl × RdS} {l : List Tok} {s : RdS} (hq : Sticky q) (h : (q s).2.err ≠ 0) : (rtry q l s).2.err = (q s).2.err := by
 simp only [rtry, rneed_err h, rword_err h]; exact hq _ h
theorem rtry_e2 {q : RdS → Gl × RdS} {l : List Tok} {s : RdS} (hq : Sticky q) (h : (rneed l kCatch (q s).2).err ≠ 0) : (rtry q l s).2.err = (rneed l kCatch (q s).2).err := by
 simp only [rtry, rword_err h, rneed_err h]; exact hq _ h
theorem rtry_e3 {q : RdS → Gl × RdS} {l : List Tok} {s : RdS} (hq : Sticky q) (h : (rword l 2 (rneed l kCatch (q s).2)).2.err ≠ 0) : (rtry q l s).2.err = (rword l 2 (rneed l kCatch (q s).2)).2.err := by
 simp only [rtry, rneed_err h]; exact hq _ h
theorem rtry_e4 {q : RdS → Gl × RdS} {l : List Tok} {s : RdS} (hq : Sticky q) (h : (rneed l kThen (rword l 2 (rneed l kCatch (q s).2)).2).err ≠ 0) : (rtry q l s).2.err = (rneed l kThen (rword l 2 (rneed l kCatch (q s).2)).2).err := by
 simp only [rtry]; exact hq _ h

theorem bat_lt {s : ByteArray} {p : Nat} {c : UInt8} (h : s[p]? = some c) : p < s.size := by
 apply Classical.byContradiction; intro hn
 simp [hn] at h
theorem bat_end {s : ByteArray} {p : Nat} (h : s.size ≤ p) : s[p]? = none := by
 have : ¬ p < s.size := by omega
 simp [this]
theorem rAll_fuel {s : ByteArray} : ∀ (k j p : Nat) (cm : Bool) (pl : List Int) (ts : List Tok), s.size ≤ k + p → s.size ≤ j + p → rAll s k p cm pl ts = rAll s j p cm pl ts
 | 0, 0, p, cm, pl, ts, _, _ => rfl
 | 0, j + 1, p, cm, pl, ts, h, _ => by simp only [rAll, bat_end (s := s) (p := p) (by omega)]
 | k + 1, 0, p, cm, pl, ts, _, h => by simp only [rAll, bat_end (s := s) (p := p) (by omega)]
 | k + 1, j + 1, p, cm, pl, ts, h1, h2 => by
  have a1 : s.size ≤ k + (p + 1) := by omega
  have a2 : s.size ≤ j + (p + 1) := by omega
  have a3 : ∀ m, 1 ≤ m → s.size ≤ k + (p + m) := fun m hm => by omega
  have a4 : ∀ m, 1 ≤ m → s.size ≤ j + (p + m) := fun m hm => by omega
  simp only [rAll]
  cases hc : s[p]? with
  | none => rfl
  | some c =>
   have e1 := rAll_fuel k j (p + 1) (!decide ((c.toNat : Int) = 10)) pl ts a1 a2
   have e2 := rAll_fuel k j (p + 1) false pl ts a1 a2
   have e3 := rAll_fuel k j (p + 1) true pl ts a1 a2
   simp only [e2, e3]
   repeat' split
   all_goals first | rfl | skip
   all_goals first | exact e1 | skip
   rename_i hw
   have hsz := rWord_size hc hw
   exact rAll_fuel k j _ _ _ _ (a3 _ hsz.1) (a4 _ hsz.1)
theorem rAll_pl {s : ByteArray} : ∀ (k p : Nat) (cm : Bool) (pl pl' : List Int) (ts : List Tok), (rAll s k p cm pl ts).2 = (rAll s k p cm pl' ts).2
 | 0, _, _, _, _, _ => rfl
 | k + 1, p, cm, pl, pl', ts => by
  simp only [rAll]
  cases hc : s[p]? with
  | none => rfl
  | some c =>
   simp only
   repeat' split
   all_goals first | rfl | exact rAll_pl k _ _ _ _ _
def toks (s : ByteArray) (p : Nat) (cm : Bool) (ts : List Tok) : List Tok × Bool := (rAll s (s.size - p) p cm [] ts).2
theorem toks_end {s : ByteArray} {p : Nat} {cm : Bool} {ts : List Tok} (h : s.size ≤ p) : toks s p cm ts = (ts, true) := by
 unfold toks
 rw [show s.size - p = 0 by omega]
 simp only [rAll]
theorem toks_step {s : ByteArray} {p : Nat} {cm : Bool} {ts : List Tok} {c : UInt8} (h : s[p]? = some c) : toks s p cm ts =
  if cm = true then toks s (p + 1) (!decide ((c.toNat : Int) = 10)) ts else if isBlank c = true then toks s (p + 1) false ts else if (c.toNat : Int) = 37 then toks s (p + 1) true ts
  else if (rWord s p c).2 = true then toks s (p + (rWord s p c).1.text.size) false (ts ++ [(rWord s p c).1]) else (ts, false) := by
 have hlt := bat_lt h
 unfold toks
 obtain ⟨k, hk⟩ : ∃ k, s.size - p = k + 1 := ⟨s.size - p - 1, by omega⟩
 rw [hk, show s.size - (p + 1) = k by omega]
 simp only [rAll, h]
 cases cm with
 | true => simp only [if_true]
 | false =>
  simp only [Bool.false_eq_true, if_false]
  split
  ·rfl
  ·split
   ·rfl
   ·split
    ·rename_i hw
     have hsz := rWord_size h hw
     rw [rAll_fuel k (s.size - (p + (rWord s p c).1.text.size)) _ _ _ _ (by omega) (by omega)]
     exact rAll_pl ..
    ·rfl
theorem rlex_toks (s : ByteArray) : rlex s = if 16384 < s.size then ([], 4) else if (toks s 0 false []).2 = true then ((toks s 0 false []).1, 0) else ([], 1) := by
 unfold rlex toks
 rfl
def spanTo (q : UInt8 → Bool) (s : ByteArray) (n : Nat) : Nat := runTo q s (s.size - n) n
theorem runTo_fuel {q : UInt8 → Bool} {s : ByteArray} : ∀ (k j n : Nat), s.size ≤ k + n → s.size ≤ j + n → runTo q s k n = runTo q s j n
 | 0, 0, n, _, _ => rfl
 | 0, j + 1, n, h, _ => by simp only [runTo, bat_end (s := s) (p := n) (by omega)]
 | k + 1, 0, n, _, h => by simp only [runTo, bat_end (s := s) (p := n) (by omega)]
 | k + 1, j + 1, n, h1, h2 => by
  have e := runTo_fuel (q := q) (s := s) k j (n + 1) (by omega) (by omega)
  simp only [runTo, e]
theorem spanTo_is {q : UInt8 → Bool} {s : ByteArray} {n : Nat} : runTo q s s.size n = spanTo q s n := runTo_fuel _ _ _ (by omega) (by omega)
theorem spanTo_end {q : UInt8 → Bool} {s : ByteArray} {n : Nat} (h : s.size ≤ n) : spanTo q s n = n := by
 unfold spanTo
 rw [show s.size - n = 0 by omega]
 simp only [runTo]
theorem spanTo_step {q : UInt8 → Bool} {s : ByteArray} {n : Nat} {c : UInt8} (h : s[n]? = some c) : spanTo q s n = if q c = true then spanTo q s (n + 1) else n := by
 have hlt := bat_lt h
 unfold spanTo
 obtain ⟨k, hk⟩ : ∃ k, s.size - n = k + 1 := ⟨s.size - n - 1, by omega⟩
 rw [hk, show s.size - (n + 1) = k by omega]
 simp only [runTo, h]
theorem spanTo_le {q : UInt8 → Bool} {s : ByteArray} {n : Nat} (h : n ≤ s.size) : n ≤ spanTo q s n ∧ spanTo q s n ≤ s.size := by
 rw [← spanTo_is]; exact runTo_le _ _ h
theorem spanTo_stop {q : UInt8 → Bool} {s : ByteArray} : ∀ (m n : Nat), s.size - n = m → ∀ x, s[spanTo q s n]? = some x → q x = false
 | 0, n, h, x, hx => by
  rw [spanTo_end (by omega), bat_end (by omega)] at hx; cases hx
 | m + 1, n, h, x, hx => by
  obtain ⟨c, hc⟩ : ∃ c, s[n]? = some c := ⟨s[n]'(by omega), by simp⟩
  have hst := spanTo_step (q := q) hc
  cases hq : q c with
  | true => rw [hst, hq, if_pos rfl] at hx; exact spanTo_stop m (n + 1) (by omega) x hx
  | false => rw [hst, hq, if_neg Bool.false_ne_true, hc] at hx; cases hx; exact hq
theorem toks_com {s : ByteArray} {ts : List Tok} : ∀ (m p : Nat), (∀ j, p ≤ j → j < p + m → ∃ c, s[j]? = some c ∧ ¬ (c.toNat : Int) = 10) → toks s p true ts = toks s (p + m) true ts
 | 0, p, _ => rfl
 | m + 1, p, h => by
  obtain ⟨c, hc, hn⟩ := h p (Nat.le_refl _) (by omega)
  rw [toks_step hc, if_pos rfl, show (!decide ((c.toNat : Int) = 10)) = true by simp [hn], toks_com m (p + 1) (fun j h1 h2 => h j (by omega) (by omega))]
  congr 1; omega
theorem indexByte_at : ∀ (l : List UInt8) (c : UInt8), (Lib.indexByte l c = -1 ∧ ∀ x ∈ l, x ≠ c) ∨ ∃ n : Nat, Lib.indexByte l c = (n : Int) ∧ n < l.length ∧ l[n]? = some c ∧ ∀ j, j < n → ∀ x, l[j]? = some x → x ≠ c
 | [], c => .inl ⟨rfl, fun x h => by cases h⟩
 | b :: l, c => by
  by_cases hb : b = c
  ·subst hb
   exact .inr ⟨0, by simp [Lib.indexByte], by simp, rfl, fun j h => by omega⟩
  ·have hb' : (b == c) = false := by simpa using hb
   rcases indexByte_at l c with ⟨h1, h2⟩ | ⟨n, h1, h2, h3, h4⟩
   ·refine .inl ⟨by simp [Lib.indexByte, hb', h1], fun x hx => ?_⟩
    rcases List.mem_cons.1 hx with rfl | hx
    ·exact hb
    ·exact h2 x hx
   ·refine .inr ⟨n + 1, ?_, by simpa using h2, by simpa using h3, fun j hj x hx => ?_⟩
    ·have : ¬ ((n : Int) == -1) = true := by simp
     simp only [Lib.indexByte, hb', h1, Bool.false_eq_true, if_false]
     rw [if_neg this]; omega
    ·cases j with
     | zero => simp at hx; rw [← hx]; exact hb
     | succ j => exact h4 j (by omega) x (by simpa using hx)
def SkipTo (s : ByteArray) (p p' : Nat) : Prop := p ≤ p' ∧ p' ≤ s.size ∧ (∀ ts, toks s p false ts = toks s p' false ts) ∧ ∀ c, s[p']? = some c → isBlank c = false ∧ ¬ (c.toNat : Int) = 37
theorem ba_list {s : ByteArray} {i : Nat} : s[i]? = s.data.toList[i]? := by
 by_cases h : i < s.size
 ·rw [getElem?_pos s i h, List.getElem?_eq_getElem (by simpa using h)]; rfl
 ·rw [getElem?_neg s i h, List.getElem?_eq_none (by simpa using h)]
theorem extract_list (s : ByteArray) (n : Nat) : (s.extract n s.size).data.toList = s.data.toList.drop n := by
 rw [ByteArray.data_extract, Array.toList_extract, List.extract_eq_drop_take, List.take_of_length_le]
 simp
theorem com_end {s : ByteArray} {n : Nat} {c : UInt8} (hc : s[n]? = some c) (h37 : (c.toNat : Int) = 37) (hno : ∀ x ∈ s.data.toList.drop n, x ≠ 10) (ts : List Tok) : toks s n false ts = toks s s.size false ts := by
 have hlt := bat_lt hc
 have hb : isBlank c = false := by simp [isBlank]; omega
 rw [toks_step hc, if_neg Bool.false_ne_true, if_neg (by rw [hb]; exact Bool.false_ne_true), if_pos h37, toks_com (s.size - (n + 1)) (n + 1) (fun j h1 h2 => ?_)]
 ·rw [show n + 1 + (s.size - (n + 1)) = s.size by omega, toks_end (Nat.le_refl _), toks_end (Nat.le_refl _)]
 ·have hj : j < s.size := by omega
  refine ⟨s[j], by simp [hj], fun he => ?_⟩
  have : s[j] ∈ s.data.toList.drop n := List.mem_iff_getElem?.2 ⟨j - n, by rw [List.getElem?_drop, show n + (j - n) = j by omega, ← ba_list]; simp [hj]⟩
  exact hno _ this (UInt8.toNat_inj.1 (by show (s[j]).toNat = 10; omega))
theorem com_line {s : ByteArray} {n m : Nat} {c : UInt8} (hc : s[n]? = some c) (h37 : (c.toNat : Int) = 37) (hm : (s.data.toList.drop n)[m]? = some 10) (hno : ∀ j, j < m → ∀ x, (s.data.toList.drop n)[j]? = some x → x ≠ 10) (ts : List Tok) : toks s n false ts = toks s (n + m) false ts := by
 have hlt := bat_lt hc
 have hb : isBlank c = false := by simp [isBlank]; omega
 have hm' : s[n + m]? = some 10 := by rw [ba_list, ← List.getElem?_drop]; exact hm
 have hltm := bat_lt hm'
 have hm0 : m ≠ 0 := fun e => by subst e; rw [Nat.add_zero, hc] at hm'; cases hm'; revert h37; decide
 rw [toks_step hc, if_neg Bool.false_ne_true, if_neg (by rw [hb]; exact Bool.false_ne_true), if_pos h37, toks_com (m - 1) (n + 1) (fun j h1 h2 => ?_)]
 ·rw [show n + 1 + (m - 1) = n + m by omega, toks_step (cm := true) hm', if_pos rfl, toks_step (cm := false) hm', if_neg Bool.false_ne_true, if_pos (by decide)]
  rfl
 ·have hj : j < s.size := by omega
  have hsj : s[j]? = some s[j] := by simp [hj]
  refine ⟨s[j], hsj, fun he => ?_⟩
  exact hno (j - n) (by omega) s[j] (by rw [List.getElem?_drop, show n + (j - n) = j by omega, ← ba_list]; exact hsj) (UInt8.toNat_inj.1 (by show (s[j]).toNat = 10; omega))
end Go.Aug

/- Plain: rows that are not long: what the reader makes is small. -/
namespace Go.Aug
set_option maxRecDepth 100000
set_option linter.unusedSimpArgs false
attribute [local irreducible] hid andK letA onSome onVar onArr arrOnly onInt onBool onTup idxA ldV ldD addO ofPart appTo fillL slA srcK nilQ retW gif sgd sguard svc sops sdops sagain aopO aLoad aStore aBin aUn aConv aLen aIndexAddr aIndex aIndexAddrS aIndexS aSlice aAppend aBuild aBuildSlice aMakeSlice aField aFieldOf aCallOp deepK deepL frzM putE newK newV growV ACall roundQ thenQ inBlockQ sret cnd szs nilC onRow aLookup aMapUpdate aMakeMap
attribute [local go_sem] Int.natCast_zero
mutual
def Tm.small : Tm → Prop
 | .mk _ _ _ xs => xs.length ≤ 32768 ∧ Tm.smalls xs
def Tm.smalls : List Tm → Prop
 | [] => True
 | t :: ts => t.small ∧ Tm.smalls ts
end
mutual
def Ty.small : Ty → Prop
 | .mk _ _ xs => xs.length ≤ 32768 ∧ Ty.smalls xs
def Ty.smalls : List Ty → Prop
 | [] => True
 | t :: ts => t.small ∧ Ty.smalls ts
end
mutual
def Gl.small : Gl → Prop
 | .mk _ a b _ xs gs => a.small ∧ b.small ∧ xs.length ≤ 32768 ∧ Tm.smalls xs ∧ gs.length ≤ 32768 ∧ Gl.smalls gs
def Gl.smalls : List Gl → Prop
 | [] => True
 | t :: ts => t.small ∧ Gl.smalls ts
end
theorem ritems_length {l : List Tok} : ∀ (k : Nat) (is : List It) (s : RdS), is.length ≤ 512 → (ritems l k is s).1.length ≤ 512
 | 0, is, s, h => h
 | k + 1, is, s, h => by
  simp only [ritems]
  repeat' split
  ·exact h
  ·exact h
  ·exact ritems_length k _ _ (by simp only [List.length_append, List.length_cons, List.length_nil]; omega)
mutual
def Tm.nodes : Tm → Nat
 | .mk _ _ _ xs => 1 + Tm.nodess xs
def Tm.nodess : List Tm → Nat
 | [] => 0
 | t :: ts => t.nodes + Tm.nodess ts
end
theorem Tm.nodes_pos (t : Tm) : 1 ≤ t.nodes := by cases t; simp only [Tm.nodes]; omega
mutual
def Gl.nodes : Gl → Nat
 | .mk _ a b _ xs gs => 1 + a.nodes + b.nodes + Tm.nodess xs + Gl.nodess gs
def Gl.nodess : List Gl → Nat
 | [] => 0
 | g :: gs => g.nodes + Gl.nodess gs
end
theorem Gl.nodes_pos (g : Gl) : 1 ≤ g.nodes := by cases g; simp only [Gl.nodes]; omega
mutual
def Ty.nodes : Ty → Nat
 | .mk _ _ xs => 1 + Ty.nodess xs
def Ty.nodess : List Ty → Nat
 | [] => 0
 | t :: ts => t.nodes + Ty.nodess ts
end
theorem Ty.nodess_mem {t : Ty} : ∀ {ts : List Ty}, t ∈ ts → t.nodes ≤ Ty.nodess ts
 | _ :: _, .head _ => by simp only [Ty.nodess]; omega
 | _ :: _, .tail _ h => by have := Ty.nodess_mem h; simp only [Ty.nodess]; omega
theorem list_at {α : Type} {l : List α} {k : Nat} (h : k < l.length) : ∃ x, l[k]? = some x := ⟨l[k], by simp [h]⟩
theorem Tm.nodess_mem {t : Tm} : ∀ {ts : List Tm}, t ∈ ts → t.nodes ≤ Tm.nodess ts
 | _ :: _, .head _ => by simp only [Tm.nodess]; omega
 | _ :: _, .tail _ h => by have := Tm.nodess_mem h; simp only [Tm.nodess]; omega
theorem Gl.nodess_mem {t : Gl} : ∀ {ts : List Gl}, t ∈ ts → t.nodes ≤ Gl.nodess ts
 | _ :: _, .head _ => by simp only [Gl.nodess]; omega
 | _ :: _, .tail _ h => by have := Gl.nodess_mem h; simp only [Gl.nodess]; omega
theorem It.opn (it : It) : ∃ x1 x2 x3 x4 x5 x6 x7 x8 x9 x10 x11 x12, it.body.cs = [x1, x2, x3, x4, x5, x6, x7, x8, x9, x10, x11, x12] ∧ it.d = .agg [.int .i64 it.kind, .str it.name, .slice (it.vars.map .str), .slice (it.ctors.map Ct.d), .slice (it.types.map Ty.d), .slice (it.ways.map .bool), .int .i64 it.det, .slice (it.args.map Tm.d), x1, x2, x3, x4, x5, x6, x7, x8, x9, x10, x11, x12] := by
 obtain ⟨x1, x2, x3, x4, x5, x6, x7, x8, x9, x10, x11, x12, h⟩ := it.body.opn
 exact ⟨_, _, _, _, _, _, _, _, _, _, _, _, h, by simp [It.d, It.cs, h]⟩
end Go.Aug
