/- An evaluator for closed calls that the kernel reckons, and its soundness; no conditions. -/
import Derived.Test.YtejfagblpbmokaaDoorAugFour
import Derived.Laws.Strings2
import Derived.Defers
import Derived.Below
set_option linter.all false
set_option linter.unusedVariables false
set_option linter.unusedSimpArgs false
set_option linter.unusedSectionVars false

/-
  The abstract layer, closed runs, part A: values whose blocks are numbered in the order in which they are made, and what they stand for.
-/
namespace Go.Aug
inductive All2 {α β : Type} (R : α → β → Prop) : List α → List β → Prop
  | nil : All2 R [] []
  | cons {x : α} {y : β} {xs : List α} {ys : List β} (h : R x y) (t : All2 R xs ys) : All2 R (x :: xs) (y :: ys)
section
variable {α β : Type} {R R' : α → β → Prop}
theorem All2.length {xs : List α} {ys : List β} (h : All2 R xs ys) : xs.length = ys.length := by
  induction h with
  | nil => rfl
  | cons _ _ ih => simp [ih]
theorem All2.at {xs : List α} {ys : List β} (h : All2 R xs ys) : ∀ {j : Nat} {x : α}, xs[j]? = some x → ∃ y, ys[j]? = some y ∧ R x y := by
  induction h with
  | nil => intro j x hx; simp at hx
  | cons h _ ih =>
    intro j x hx
    cases j with
    | zero => simp at hx; subst hx; exact ⟨_, rfl, h⟩
    | succ j => exact ih (by simpa using hx)
theorem All2.imp {xs : List α} {ys : List β} (h : All2 R xs ys) (hi : ∀ x y, R x y → R' x y) : All2 R' xs ys := by
  induction h with
  | nil => exact .nil
  | cons h _ ih => exact .cons (hi _ _ h) ih
theorem All2.drop {xs : List α} {ys : List β} (h : All2 R xs ys) : ∀ n, All2 R (xs.drop n) (ys.drop n) := by
  induction h with
  | nil => intro n; simp; exact .nil
  | cons h t ih =>
    intro n
    cases n with
    | zero => exact .cons h t
    | succ n => exact ih n
theorem All2.take {xs : List α} {ys : List β} (h : All2 R xs ys) : ∀ n, All2 R (xs.take n) (ys.take n) := by
  induction h with
  | nil => intro n; simp; exact .nil
  | cons h t ih =>
    intro n
    cases n with
    | zero => exact .nil
    | succ n => exact .cons h (ih n)
theorem All2.append {xs xs' : List α} {ys ys' : List β} (h : All2 R xs ys) (h' : All2 R xs' ys') : All2 R (xs ++ xs') (ys ++ ys') := by
  induction h with
  | nil => exact h'
  | cons h _ ih => exact .cons h ih
theorem All2.of {xs : List α} : ∀ {ys : List β}, xs.length = ys.length → (∀ j (h : j < xs.length) (h' : j < ys.length), R xs[j] ys[j]) → All2 R xs ys := by
  induction xs with
  | nil => intro ys hl _; cases ys with
    | nil => exact .nil
    | cons => simp at hl
  | cons x xs ih => intro ys hl hr; cases ys with
    | nil => simp at hl
    | cons y ys => exact .cons (hr 0 (by simp) (by simp)) (ih (by simpa using hl) fun j h h' => hr (j + 1) (by simpa using h) (by simpa using h'))
theorem All2.get {xs : List α} {ys : List β} (h : All2 R xs ys) : ∀ j (hj : j < xs.length) (hj' : j < ys.length), R xs[j] ys[j] := by
  intro j hj hj'
  obtain ⟨y, hy, r⟩ := h.at (List.getElem?_eq_getElem hj)
  rw [List.getElem?_eq_getElem hj'] at hy
  cases hy; exact r
theorem All2.setMany {xs xs' : List α} {ys ys' : List β} (h : All2 R xs ys) (h' : All2 R xs' ys') (o : Nat) : All2 R (setMany xs o xs') (setMany ys o ys') := by
  unfold Go.Aug.setMany
  rw [h'.length]
  exact ((h.take o).append h').append (h.drop _)
end
/-- A value with numbered blocks stands for a value. L: the blocks made so far; U: the rows' own values. -/
inductive RS (L : List Nat) (U : List Value) : A → A → Prop
  | undef : RS L U .undef .undef
  | d (x : D) : RS L U (.d x) (.d x)
  | nils : RS L U .nils .nils
  | agg (cs cs' : List A) (hl : cs.length = cs'.length) (hr : ∀ j (h : j < cs.length) (h' : j < cs'.length), RS L U cs[j] cs'[j]) : RS L U (.agg cs) (.agg cs')
  | tup (cs cs' : List A) (hl : cs.length = cs'.length) (hr : ∀ j (h : j < cs.length) (h' : j < cs'.length), RS L U cs[j] cs'[j]) : RS L U (.tup cs) (.tup cs')
  | ref (i b off : Nat) (h : L[i]? = some b) : RS L U (.ref i off) (.ref b off)
  | imm (cs : List D) : RS L U (.imm cs) (.imm cs)
  | own (i b : Nat) (k : Nat) (v : Value) (h : L[i]? = some b) (hv : U[k]? = some v) : RS L U (.own i (.int .i64 (Int.ofNat k))) (.own b v)
  | eref (i b : Nat) (k : Nat) (v : Value) (sz j off : Nat) (h : L[i]? = some b) (hv : U[k]? = some v) : RS L U (.eref i (.int .i64 (Int.ofNat k)) sz j off) (.eref b v sz j off)
  | func (f : FuncId) (cs cs' : List A) (hl : cs.length = cs'.length) (hr : ∀ j (h : j < cs.length) (h' : j < cs'.length), RS L U cs[j] cs'[j]) : RS L U (.func f cs) (.func f cs')
  | mp (i b : Nat) (h : L[i]? = some b) : RS L U (.mp i) (.mp b)
theorem pre_get {α : Type} {L L' : List α} (h : L <+: L') {i : Nat} {b : α} (hb : L[i]? = some b) : L'[i]? = some b := by
  obtain ⟨t, rfl⟩ := h
  have : i < L.length := (List.getElem?_eq_some_iff.1 hb).1
  rw [List.getElem?_append_left this]; exact hb
section
variable {L L' : List Nat} {U U' : List Value}
theorem RS.mono {x y : A} (h : RS L U x y) (hL : L <+: L') (hU : U <+: U') : RS L' U' x y := by
  induction h with
  | undef => exact .undef
  | d x => exact .d x
  | nils => exact .nils
  | agg cs cs' hl _ ih => exact .agg cs cs' hl ih
  | tup cs cs' hl _ ih => exact .tup cs cs' hl ih
  | ref i b off h => exact .ref i b off (pre_get hL h)
  | imm cs => exact .imm cs
  | own i b k v h hv => exact .own i b k v (pre_get hL h) (pre_get hU hv)
  | eref i b k v sz j off h hv => exact .eref i b k v sz j off (pre_get hL h) (pre_get hU hv)
  | func f cs cs' hl _ ih => exact .func f cs cs' hl ih
  | mp i b h => exact .mp i b (pre_get hL h)
theorem RS.fn {x y : A} (h : RS L U x y) : ∀ {z : A}, RS L U x z → y = z := by
  have ls : ∀ {cs cs' cs'' : List A}, cs.length = cs'.length → cs.length = cs''.length → (∀ j (h : j < cs.length) (h' : j < cs'.length) (h'' : j < cs''.length), cs'[j] = cs''[j]) → cs' = cs'' := by
    intro cs cs' cs'' h1 h2 h3
    apply List.ext_getElem (by omega)
    intro j hj hj'
    exact h3 j (by omega) hj hj'
  induction h with
  | undef => intro z hz; cases hz; rfl
  | d x => intro z hz; cases hz; rfl
  | nils => intro z hz; cases hz; rfl
  | agg cs cs' hl _ ih => intro z hz; cases hz with | agg _ cs'' hl' hr' => exact congrArg A.agg (ls hl hl' fun j h h' h'' => ih j h h' (hr' j h h''))
  | tup cs cs' hl _ ih => intro z hz; cases hz with | tup _ cs'' hl' hr' => exact congrArg A.tup (ls hl hl' fun j h h' h'' => ih j h h' (hr' j h h''))
  | ref i b off h => intro z hz; cases hz with | ref _ b' _ h' => rw [h] at h'; cases h'; rfl
  | imm cs => intro z hz; cases hz; rfl
  | own i b k v h hv => intro z hz; cases hz with | own _ b' _ v' h' hv' => rw [h] at h'; cases h'; rw [hv] at hv'; cases hv'; rfl
  | eref i b k v sz j off h hv => intro z hz; cases hz with | eref _ b' _ v' _ _ _ h' hv' => rw [h] at h'; cases h'; rw [hv] at hv'; cases hv'; rfl
  | func f cs cs' hl _ ih => intro z hz; cases hz with | func _ _ cs'' hl' hr' => exact congrArg (A.func f) (ls hl hl' fun j h h' h'' => ih j h h' (hr' j h h''))
  | mp i b h => intro z hz; cases hz with | mp _ b' h' => rw [h] at h'; cases h'; rfl
abbrev RSL (L : List Nat) (U : List Value) : List A → List A → Prop := All2 (RS L U)
theorem RSL.mono {x y : List A} (h : RSL L U x y) (hL : L <+: L') (hU : U <+: U') : RSL L' U' x y := h.imp fun _ _ h => h.mono hL hU
theorem RS.aggL {cs cs' : List A} (h : RSL L U cs cs') : RS L U (.agg cs) (.agg cs') := .agg _ _ h.length h.get
theorem RS.tupL {cs cs' : List A} (h : RSL L U cs cs') : RS L U (.tup cs) (.tup cs') := .tup _ _ h.length h.get
theorem RS.funcL {f : FuncId} {cs cs' : List A} (h : RSL L U cs cs') : RS L U (.func f cs) (.func f cs') := .func _ _ _ h.length h.get
theorem RSL.ds : ∀ ds : List D, RSL L U (ds.map .d) (ds.map .d)
  | [] => .nil
  | x :: ds => .cons (.d x) (RSL.ds ds)
theorem allD_rs : ∀ {cs cs' : List A}, RSL L U cs cs' → allD cs' = allD cs
  | _, _, .nil => rfl
  | _, _, .cons h t => by
    have ih := allD_rs t
    cases h <;> first | rfl | (simp only [allD, ih])
theorem RS.aggN {cs cs' : List A} (h : RSL L U cs cs') : RS L U (aggN cs) (aggN cs') := by
  unfold Go.Aug.aggN
  rw [allD_rs h]
  cases allD cs with
  | none => exact .aggL h
  | some ds => exact .d _
theorem RS.cells {x y : A} (h : RS L U x y) : RSL L U x.cells y.cells := by
  cases h with
  | d x => exact RSL.ds _
  | agg cs cs' hl hr => exact .of hl hr
  | undef => exact .cons .undef .nil
  | nils => exact .cons .nils .nil
  | tup cs cs' hl hr => exact .cons (.tup _ _ hl hr) .nil
  | ref i b off h => exact .cons (.ref _ _ _ h) .nil
  | imm cs => exact .cons (.imm _) .nil
  | own i b k v h hv => exact .cons (.own _ _ _ _ h hv) .nil
  | eref i b k v sz j off h hv => exact .cons (.eref _ _ _ _ _ _ _ h hv) .nil
  | func f cs cs' hl hr => exact .cons (.func _ _ _ hl hr) .nil
  | mp i b h => exact .cons (.mp _ _ h) .nil
theorem RS.good {x y : A} (h : RS L U x y) : y.good = x.good := by cases h <;> rfl
/-- A thing with numbered blocks stands for a thing. -/
inductive RO (L : List Nat) (U : List Value) : AObj → AObj → Prop
  | var {cs cs' : List A} (h : RSL L U cs cs') : RO L U (.var cs) (.var cs')
  | arr {E : TypeId} {sz k : Nat} {v : Value} {ds : List D} (hv : U[k]? = some v) : RO L U (.arr E sz (.int .i64 (Int.ofNat k)) ds) (.arr E sz v ds)
  | frz {k : Nat} {v : Value} {ds : List D} (hv : U[k]? = some v) : RO L U (.frz (.int .i64 (Int.ofNat k)) ds) (.frz v ds)
  | map (s : KS) (m : List (D × D)) : RO L U (.map s m) (.map s m)
theorem RO.mono {x y : AObj} (h : RO L U x y) (hL : L <+: L') (hU : U <+: U') : RO L' U' x y := by
  cases h with
  | var h => exact .var (h.mono hL hU)
  | arr hv => exact .arr (pre_get hU hv)
  | frz hv => exact .frz (pre_get hU hv)
  | map s m => exact .map s m
end
/-- Things by their numbers: a tree. -/
inductive Tr where
  | nil
  | leaf (o : AObj)
  | node (l r : Tr)
def Tr.get : Nat → Tr → Nat → Option AObj
  | 0, .leaf o, _ => some o
  | d + 1, .node l r, n => match Nat.beq (n % 2) 0 with
    | true => Tr.get d l (n / 2)
    | false => Tr.get d r (n / 2)
  | _, _, _ => none
def Tr.put : Nat → Tr → Nat → Option AObj → Tr
  | 0, _, _, some o => .leaf o
  | 0, _, _, none => .nil
  | d + 1, .node l r, n, o => match Nat.beq (n % 2) 0 with
    | true => .node (Tr.put d l (n / 2) o) r
    | false => .node l (Tr.put d r (n / 2) o)
  | d + 1, _, n, o => match Nat.beq (n % 2) 0 with
    | true => .node (Tr.put d .nil (n / 2) o) .nil
    | false => .node .nil (Tr.put d .nil (n / 2) o)
theorem Tr.get_nil (d n : Nat) : Tr.get d .nil n = none := by cases d <;> rfl
theorem Tr.get_put : ∀ (d : Nat) (t : Tr) (n m : Nat) (o : Option AObj), n < 2 ^ d → m < 2 ^ d → Tr.get d (Tr.put d t n o) m = if m = n then o else Tr.get d t m
  | 0, t, n, m, o, hn, hm => by
    have : m = n := by simp at hn hm; omega
    rw [if_pos this]
    cases o <;> rfl
  | d + 1, t, n, m, o, hn, hm => by
    have hn2 : n / 2 < 2 ^ d := by rw [Nat.pow_succ] at hn; omega
    have hm2 : m / 2 < 2 ^ d := by rw [Nat.pow_succ] at hm; omega
    have key : ∀ l r : Tr, Tr.get (d + 1) (match Nat.beq (n % 2) 0 with | true => .node (Tr.put d l (n / 2) o) r | false => .node l (Tr.put d r (n / 2) o)) m = if m = n then o else Tr.get (d + 1) (.node l r) m := by
      intro l r
      rcases Nat.mod_two_eq_zero_or_one n with en | en <;> rcases Nat.mod_two_eq_zero_or_one m with em | em
      · have h1 : Nat.beq (n % 2) 0 = true := by rw [en]; rfl
        have h2 : Nat.beq (m % 2) 0 = true := by rw [em]; rfl
        simp only [h1, Tr.get, h2, Tr.get_put d l _ _ o hn2 hm2]
        by_cases h : m = n
        · subst h; simp
        · rw [if_neg h, if_neg (by omega)]
      · have h1 : Nat.beq (n % 2) 0 = true := by rw [en]; rfl
        have h2 : Nat.beq (m % 2) 0 = false := by rw [em]; rfl
        simp only [h1, Tr.get, h2]
        rw [if_neg (by omega)]
      · have h1 : Nat.beq (n % 2) 0 = false := by rw [en]; rfl
        have h2 : Nat.beq (m % 2) 0 = true := by rw [em]; rfl
        simp only [h1, Tr.get, h2]
        rw [if_neg (by omega)]
      · have h1 : Nat.beq (n % 2) 0 = false := by rw [en]; rfl
        have h2 : Nat.beq (m % 2) 0 = false := by rw [em]; rfl
        simp only [h1, Tr.get, h2, Tr.get_put d r _ _ o hn2 hm2]
        by_cases h : m = n
        · subst h; simp
        · rw [if_neg h, if_neg (by omega)]
    have e0 : Tr.get (d + 1) (.node .nil .nil) m = none := by
      simp only [Tr.get]
      split <;> first | rfl | exact Tr.get_nil _ _
    cases t with
    | node l r => exact key l r
    | nil => exact (key .nil .nil).trans (by rw [e0, Tr.get_nil])
    | leaf x => exact (key .nil .nil).trans (by rw [e0]; rfl)
/-- Memory with numbered blocks: how many were made, how many values of rows, the things. -/
structure XH where
  n : Nat
  u : Nat
  t : Tr
  f : List Nat
def XH.at (S : XH) (i : Nat) : Option AObj := S.t.get 14 i
def XH.set (S : XH) (i : Nat) (o : Option AObj) : XH := ⟨S.n, S.u, S.t.put 14 i o, S.f⟩
def XH.new (S : XH) (o : AObj) : Option XH := match Nat.ble 16384 S.n with
  | true => none
  | false => some ⟨S.n + 1, S.u, S.t.put 14 S.n (some o), S.f⟩
structure HS (L : List Nat) (U : List Value) (S : XH) (H : Heap) : Prop where
  n : S.n = L.length
  u : S.u = U.length
  le : L.length ≤ 16384
  obj : ∀ i b o, L[i]? = some b → S.at i = some o → ∃ o', H b = some o' ∧ RO L U o o'
  inj : ∀ i j b o o', L[i]? = some b → L[j]? = some b → S.at i = some o → S.at j = some o' → i = j
  full : ∀ k, k ∈ S.f → ∃ v, U[k]? = some v ∧ vfull v = true
section
variable {L : List Nat} {U : List Value} {S : XH} {H : Heap}
theorem HS.lt (h : HS L U S H) {i b : Nat} (hi : L[i]? = some b) : i < 2 ^ 14 := by
  have h1 := (List.getElem?_eq_some_iff.1 hi).1
  have h2 := h.le
  omega
theorem HS.val (h : HS L U S H) (v : Value) : HS L (U ++ [v]) ⟨S.n, S.u + 1, S.t, S.f⟩ H where
  n := h.n
  u := by simp [h.u]
  le := h.le
  obj := fun i b o hi ho => by
    obtain ⟨o', h1, h2⟩ := h.obj i b o hi ho
    exact ⟨o', h1, h2.mono (List.prefix_refl L) (List.prefix_append U [v])⟩
  inj := h.inj
  full := fun k hk => by
    obtain ⟨w, h1, h2⟩ := h.full k hk
    exact ⟨w, pre_get (List.prefix_append U [v]) h1, h2⟩
/-- A value that has no room. -/
theorem HS.lit (h : HS L U S H) {v : Value} (hv : vfull v = true) : HS L (U ++ [v]) ⟨S.n, S.u + 1, S.t, S.u :: S.f⟩ H where
  n := h.n
  u := by simp [h.u]
  le := h.le
  obj := fun i b o hi ho => by
    obtain ⟨o', h1, h2⟩ := h.obj i b o hi ho
    exact ⟨o', h1, h2.mono (List.prefix_refl L) (List.prefix_append U [v])⟩
  inj := h.inj
  full := fun k hk => by
    rcases List.mem_cons.1 hk with rfl | hk
    · exact ⟨v, by rw [h.u]; simp, hv⟩
    · obtain ⟨w, h1, h2⟩ := h.full k hk
      exact ⟨w, pre_get (List.prefix_append U [v]) h1, h2⟩
theorem HS.put (h : HS L U S H) {i b : Nat} {o0 o o' : AObj} (hi : L[i]? = some b) (h0 : S.at i = some o0) (ho : RO L U o o') : HS L U (S.set i (some o)) (upd H b o') where
  n := h.n
  u := h.u
  le := h.le
  full := h.full
  obj := fun j b' x hj hx => by
    simp only [XH.at, XH.set, Tr.get_put 14 _ _ _ _ (h.lt hi) (h.lt hj)] at hx
    by_cases e : j = i
    · subst e
      rw [hi] at hj; cases hj
      simp at hx; subst hx
      exact ⟨o', upd_same _ _ _, ho⟩
    · rw [if_neg e] at hx
      obtain ⟨o2, h1, h2⟩ := h.obj j b' x hj hx
      refine ⟨o2, ?_, h2⟩
      rw [upd_ne _ _ (fun eb => e (h.inj j i b' x o0 hj (by rw [eb]; exact hi) hx h0))]; exact h1
  inj := fun j k b' x y hj hk hx hy => by
    simp only [XH.at, XH.set, Tr.get_put 14 _ _ _ _ (h.lt hi) (h.lt hj)] at hx
    simp only [XH.at, XH.set, Tr.get_put 14 _ _ _ _ (h.lt hi) (h.lt hk)] at hy
    by_cases e : j = i <;> by_cases e' : k = i
    · omega
    · subst e; rw [if_neg e'] at hy; exact h.inj _ _ b' o0 y hj hk h0 hy
    · subst e'; rw [if_neg e] at hx; exact h.inj _ _ b' x o0 hj hk hx h0
    · rw [if_neg e] at hx; rw [if_neg e'] at hy; exact h.inj _ _ b' x y hj hk hx hy
theorem HS.del (h : HS L U S H) {i b : Nat} {o0 : AObj} (hi : L[i]? = some b) (h0 : S.at i = some o0) : HS L U (S.set i none) (del H b) where
  n := h.n
  u := h.u
  le := h.le
  full := h.full
  obj := fun j b' x hj hx => by
    simp only [XH.at, XH.set, Tr.get_put 14 _ _ _ _ (h.lt hi) (h.lt hj)] at hx
    by_cases e : j = i
    · subst e; simp at hx
    · rw [if_neg e] at hx
      obtain ⟨o2, h1, h2⟩ := h.obj j b' x hj hx
      refine ⟨o2, ?_, h2⟩
      have : b' ≠ b := fun eb => e (h.inj j i b' x o0 hj (by rw [eb]; exact hi) hx h0)
      simp only [Go.Aug.del, if_neg this]; exact h1
  inj := fun j k b' x y hj hk hx hy => by
    simp only [XH.at, XH.set, Tr.get_put 14 _ _ _ _ (h.lt hi) (h.lt hj)] at hx
    simp only [XH.at, XH.set, Tr.get_put 14 _ _ _ _ (h.lt hi) (h.lt hk)] at hy
    by_cases e : j = i
    · subst e; simp at hx
    · by_cases e' : k = i
      · subst e'; simp at hy
      · rw [if_neg e] at hx; rw [if_neg e'] at hy; exact h.inj _ _ b' x y hj hk hx hy
theorem HS.new (h : HS L U S H) {b : Nat} {o o' : AObj} {S' : XH} (hb : H b = none) (ho : RO (L ++ [b]) U o o') (hS : S.new o = some S') : HS (L ++ [b]) U S' (upd H b o') := by
  unfold XH.new at hS
  split at hS
  · cases hS
  · rename_i hle
    have hlt : L.length < 16384 := by
      have : ¬ (16384 ≤ S.n) := fun hh => by rw [Nat.ble_eq_true_of_le hh] at hle; cases hle
      rw [h.n] at this; omega
    cases hS
    have hn : S.n < 2 ^ 14 := by rw [h.n]; omega
    have old : ∀ j b', (L ++ [b])[j]? = some b' → (j = S.n ∧ b' = b) ∨ (j ≠ S.n ∧ L[j]? = some b') := by
      intro j b' hj
      rcases Nat.lt_or_ge j L.length with h1 | h1
      · rw [List.getElem?_append_left h1] at hj; exact .inr ⟨by rw [h.n]; omega, hj⟩
      · rw [List.getElem?_append_right h1] at hj
        have : j - L.length < [b].length := (List.getElem?_eq_some_iff.1 hj).1
        simp at this
        have e : j = L.length := by omega
        subst e
        simp at hj
        exact .inl ⟨h.n.symm, hj.symm⟩
    have jlt : ∀ j b', (L ++ [b])[j]? = some b' → j < 2 ^ 14 := by
      intro j b' hj
      have := (List.getElem?_eq_some_iff.1 hj).1
      simp at this; omega
    refine ⟨by simp [h.n], h.u, by simp; omega, ?_, ?_, h.full⟩
    · intro j b' x hj hx
      simp only [XH.at, Tr.get_put 14 _ _ _ _ hn (jlt j b' hj)] at hx
      rcases old j b' hj with ⟨e, rfl⟩ | ⟨e, hj'⟩
      · rw [if_pos e] at hx; cases hx
        exact ⟨o', upd_same _ _ _, ho⟩
      · rw [if_neg e] at hx
        obtain ⟨o2, h1, h2⟩ := h.obj j b' x hj' hx
        refine ⟨o2, ?_, h2.mono (List.prefix_append L [b]) (List.prefix_refl U)⟩
        rw [upd_ne _ _ (fun eb => by rw [eb, hb] at h1; cases h1)]; exact h1
    · intro j k b' x y hj hk hx hy
      simp only [XH.at, Tr.get_put 14 _ _ _ _ hn (jlt j b' hj)] at hx
      simp only [XH.at, Tr.get_put 14 _ _ _ _ hn (jlt k b' hk)] at hy
      rcases old j b' hj with ⟨e, eb⟩ | ⟨e, hj'⟩ <;> rcases old k b' hk with ⟨e', eb'⟩ | ⟨e', hk'⟩
      · omega
      · rw [if_neg e'] at hy
        obtain ⟨o2, h1, _⟩ := h.obj k b' y hk' hy
        rw [eb, hb] at h1; cases h1
      · rw [if_neg e] at hx
        obtain ⟨o2, h1, _⟩ := h.obj j b' x hj' hx
        rw [eb', hb] at h1; cases h1
      · rw [if_neg e] at hx; rw [if_neg e'] at hy; exact h.inj _ _ b' x y hj' hk' hx hy
end
end Go.Aug

/-
  The abstract layer, closed runs, part B: what an operation gives, reckoned.
-/
namespace Go.Aug
def sameV : Value → Value → Bool
  | .int .i64 (.ofNat a), .int .i64 (.ofNat b) => Nat.beq a b
  | _, _ => false
theorem sameV_nat {a b : Nat} (h : sameV (.int .i64 (Int.ofNat a)) (.int .i64 (Int.ofNat b)) = true) : a = b := Nat.eq_of_beq_eq_true h
def xif {α : Type} (b : Bool) (x : Option α) : Option α := match b with
  | true => x
  | false => none
theorem xif_some {α : Type} {b : Bool} {x : Option α} {y : α} (h : xif b x = some y) : b = true ∧ x = some y := by
  cases b
  · cases h
  · exact ⟨rfl, h⟩
def xbind {α β : Type} (x : Option α) (f : α → Option β) : Option β := match x with
  | some a => f a
  | none => none
theorem xbind_some {α β : Type} {x : Option α} {f : α → Option β} {y : β} (h : xbind x f = some y) : ∃ a, x = some a ∧ f a = some y := by
  cases x with
  | none => cases h
  | some a => exact ⟨a, rfl, h⟩
theorem ble_le {a b : Nat} (h : Nat.ble a b = true) : a ≤ b := Nat.le_of_ble_eq_true h
theorem beq_eq' {a b : Nat} (h : Nat.beq a b = true) : a = b := Nat.eq_of_beq_eq_true h
/-- What is behind an operation, whatever the blocks. -/
def Behind2 (L : List Nat) (U : List Value) (y : A) (S : XH) (K : A → Heap → Prop) : Prop :=
  ∀ L' U' y' H', L <+: L' → U <+: U' → RS L' U' y y' → HS L' U' S H' → K y' H'
section
variable {P : Program} {V : Env} {L : List Nat} {U : List Value} {S : XH} {H : Heap}
theorem row_arr (hH : HS L U S H) {i b k : Nat} {v v' : Value} {E : TypeId} {sz : Nat} {ds : List D} (hi : L[i]? = some b) (hu : U[k]? = some v) (h : S.at i = some (.arr E sz v' ds)) (hs : sameV v' (.int .i64 (Int.ofNat k)) = true) : H b = some (.arr E sz v ds) := by
  obtain ⟨o', h1, h2⟩ := hH.obj i b _ hi h
  cases h2 with
  | arr hv =>
    have e := sameV_nat hs
    subst e
    rw [hu] at hv; cases hv
    exact h1
theorem row_frz (hH : HS L U S H) {i b k : Nat} {v v' : Value} {ds : List D} (hi : L[i]? = some b) (hu : U[k]? = some v) (h : S.at i = some (.frz v' ds)) (hs : sameV v' (.int .i64 (Int.ofNat k)) = true) : H b = some (.frz v ds) := by
  obtain ⟨o', h1, h2⟩ := hH.obj i b _ hi h
  cases h2 with
  | frz hv =>
    have e := sameV_nat hs
    subst e
    rw [hu] at hv; cases hv
    exact h1
theorem var_at (hH : HS L U S H) {i b : Nat} {cs : List A} (hi : L[i]? = some b) (h : S.at i = some (.var cs)) : ∃ cs', H b = some (.var cs') ∧ RSL L U cs cs' := by
  obtain ⟨o', h1, h2⟩ := hH.obj i b _ hi h
  cases h2 with
  | var h => exact ⟨_, h1, h⟩
def xld (s : Bool × Nat) (cs : List A) (off : Nat) : Option A := match s with
  | (true, n) => xif (Nat.ble (off + n) cs.length) (some (aggN ((cs.drop off).take n)))
  | (false, _) => cs[off]?
theorem xld_sound {s : Bool × Nat} {cs cs' : List A} {off : Nat} {y : A} (h : xld s cs off = some y) (r : RSL L U cs cs') : ∃ y', RS L U y y' ∧ ∀ K : A → Prop, K y' → ldV s cs' off K := by
  obtain ⟨g, n⟩ := s
  cases g with
  | true =>
    obtain ⟨h1, h2⟩ := xif_some h
    cases h2
    refine ⟨_, RS.aggN ((r.drop off).take n), fun K hK => ⟨?_, hK⟩⟩
    rw [← r.length]; exact ble_le h1
  | false =>
    obtain ⟨y', h1, h2⟩ := r.at h
    exact ⟨y', h2, fun K hK => by simp only [ldV, onSome, h1]; exact hK⟩
def xunraw : D → Option A
  | .raw v => match v.ownBlock with
    | none => some (.d (.raw v))
    | some _ => none
  | x => some (.d x)
theorem xunraw_sound {d : D} {y : A} (h : xunraw d = some y) : unraw d = y ∧ RS L U y y := by
  cases d with
  | raw v =>
    simp only [xunraw] at h
    split at h
    · rename_i hv; cases h; simp only [unraw, hv]; exact ⟨trivial, .d _⟩
    · cases h
  | _ => cases h; exact ⟨rfl, .d _⟩
def xldD (s : Bool × Nat) (cs : List D) (off : Nat) : Option A := match s with
  | (true, n) => xif (Nat.ble (off + n) cs.length) (some (.d (.agg ((cs.drop off).take n))))
  | (false, _) => xbind cs[off]? xunraw
theorem xldD_sound {s : Bool × Nat} {cs : List D} {off : Nat} {y : A} (h : xldD s cs off = some y) : RS L U y y ∧ ∀ K : A → Prop, K y → ldD s cs off K := by
  obtain ⟨g, n⟩ := s
  cases g with
  | true =>
    obtain ⟨h1, h2⟩ := xif_some h
    cases h2
    exact ⟨.d _, fun K hK => ⟨ble_le h1, hK⟩⟩
  | false =>
    obtain ⟨d, h1, h2⟩ := xbind_some h
    obtain ⟨h3, h4⟩ := xunraw_sound (L := L) (U := U) h2
    refine ⟨h4, fun K hK => ?_⟩
    simp only [ldD, onSome, h1, h3]; exact hK
def xLoad (P : Program) (t : TypeId) (S : XH) (x : A) : Option A := xbind (tshape P t) fun s => match x with
  | .ref i off => match S.at i with
    | some (.var cs) => xld s cs off
    | _ => none
  | .imm ds => xldD s ds 0
  | .eref i v sz j off => match S.at i with
    | some (.arr _ sz' v' ds) => xif (sameV v' v) (xif (Nat.beq sz' sz) (xbind ds[j]? fun e => xldD s e.cells off))
    | _ => none
  | _ => none
theorem xLoad_sound {t : TypeId} {x x' y : A} (h : xLoad P t S x = some y) (r : RS L U x x') (hH : HS L U S H) : ∃ y', RS L U y y' ∧ ∀ K : A → Prop, K y' → aLoad P t x' H K := by
  obtain ⟨s, hs, h⟩ := xbind_some h
  cases r with
  | ref i b off hi =>
    simp only at h
    split at h
    · rename_i cs ho
      obtain ⟨cs', h1, h2⟩ := var_at hH hi ho
      obtain ⟨y', h3, h4⟩ := xld_sound h h2
      refine ⟨y', h3, fun K hK => ?_⟩
      simp only [aLoad_ref, hid, onVar, h1, hs, onSome]
      exact h4 K hK
    · cases h
  | imm ds =>
    obtain ⟨h3, h4⟩ := xldD_sound (L := L) (U := U) h
    refine ⟨y, h3, fun K hK => ?_⟩
    simp only [aLoad_imm, hid, hs, onSome]
    exact h4 K hK
  | eref i b k v sz j off hi hv =>
    simp only at h
    split at h
    · rename_i E sz' v' ds ho
      obtain ⟨h1, h⟩ := xif_some h
      obtain ⟨h2, h⟩ := xif_some h
      obtain ⟨e, he, h⟩ := xbind_some h
      obtain ⟨h3, h4⟩ := xldD_sound (L := L) (U := U) h
      refine ⟨y, h3, fun K hK => ?_⟩
      simp only [aLoad_eref, hid, arrOnly, row_arr hH hi hv ho h1, hs, onSome, he, andK]
      exact ⟨trivial, beq_eq' h2, h4 K hK⟩
    · cases h
  | _ => cases h
def xleaf (S : XH) : A → Option (D × XH)
  | .d x => some (x, S)
  | .nils => some (.slice [], S)
  | .own i v => match S.at i with
    | some (.arr _ _ v' ds) => xif (sameV v' v) (some (.slice ds, S.set i (some (.frz v' ds))))
    | some (.frz v' ds) => xif (sameV v' v) (some (.slice ds, S))
    | _ => none
  | _ => none
theorem xleaf_sound {x x' : A} {d : D} {S' : XH} (h : xleaf S x = some (d, S')) (r : RS L U x x') (hH : HS L U S H) {K : D → Heap → Prop} (hK : ∀ H', HS L U S' H' → K d H') : deepK H x' K := by
  cases r with
  | d x => cases h; rw [deepK_d]; exact hK _ hH
  | nils => cases h; rw [deepK_nils]; exact hK _ hH
  | own i b k v hi hv =>
    simp only [xleaf] at h
    rw [deepK_own]
    split at h
    · rename_i E sz v' ds ho
      obtain ⟨h1, h⟩ := xif_some h
      cases h
      simp only [hid, onArr, row_arr hH hi hv ho h1]
      refine ⟨trivial, hK _ ?_⟩
      obtain ⟨o', h2, h3⟩ := hH.obj i b _ hi ho
      cases h3 with
      | arr hv' =>
        have e := sameV_nat h1
        subst e
        exact hH.put hi ho (.frz hv)
    · rename_i v' ds ho
      obtain ⟨h1, h⟩ := xif_some h
      cases h
      simp only [hid, onArr, row_frz hH hi hv ho h1]
      exact ⟨trivial, hK _ hH⟩
    · cases h
  | _ => cases h
def xleafs (S : XH) : List A → Option (List D × XH)
  | [] => some ([], S)
  | c :: cs => xbind (xleaf S c) fun p => xbind (xleafs p.2 cs) fun q => some (p.1 :: q.1, q.2)
theorem xleafs_sound : ∀ {cs cs' : List A} {ds : List D} {S S' : XH} {H : Heap} (_ : xleafs S cs = some (ds, S')) (_ : RSL L U cs cs') (_ : HS L U S H) {K : List D → Heap → Prop} (_ : ∀ H', HS L U S' H' → K ds H'), deepL H cs' K
  | [], _, ds, S, S', H, h, r, hH, K, hK => by
    cases r; cases h; rw [deepL_nil]; exact hK _ hH
  | c :: cs, _, ds, S, S', H, h, r, hH, K, hK => by
    cases r with
    | cons r t =>
      obtain ⟨⟨d, S1⟩, h1, h⟩ := xbind_some h
      obtain ⟨⟨ds1, S2⟩, h2, h⟩ := xbind_some h
      cases h
      rw [deepL_cons]
      refine xleaf_sound h1 r hH ?_
      intro H1 hH1
      exact xleafs_sound h2 t hH1 hK
def xdeep (S : XH) (x : A) : Option (D × XH) := match x with
  | .agg cs => xbind (xleafs S cs) fun p => some (.agg p.1, p.2)
  | x => xleaf S x
theorem xdeep_sound {x x' : A} {d : D} {S' : XH} (h : xdeep S x = some (d, S')) (r : RS L U x x') (hH : HS L U S H) {K : D → Heap → Prop} (hK : ∀ H', HS L U S' H' → K d H') : deepK H x' K := by
  cases r with
  | agg cs cs' hl hr =>
    obtain ⟨⟨ds1, S2⟩, h2, h⟩ := xbind_some h
    cases h
    rw [deepK_agg]
    exact xleafs_sound h2 (.of hl hr) hH hK
  | undef => exact xleaf_sound (S := S) (x := .undef) h .undef hH hK
  | d x => exact xleaf_sound (S := S) (x := .d x) h (.d x) hH hK
  | nils => exact xleaf_sound (S := S) (x := .nils) h .nils hH hK
  | tup cs cs' hl hr => exact xleaf_sound (S := S) (x := .tup cs) h (.tup _ _ hl hr) hH hK
  | ref i b off hi => exact xleaf_sound (S := S) (x := .ref i off) h (.ref _ _ _ hi) hH hK
  | imm cs => exact xleaf_sound (S := S) (x := .imm cs) h (.imm _) hH hK
  | own i b k v hi hv => exact xleaf_sound (S := S) (x := .own i (.int .i64 (Int.ofNat k))) h (.own _ _ _ _ hi hv) hH hK
  | eref i b k v sz j off hi hv => exact xleaf_sound (S := S) (x := .eref i (.int .i64 (Int.ofNat k)) sz j off) h (.eref _ _ _ _ _ _ _ hi hv) hH hK
  | func f cs cs' hl hr => exact xleaf_sound (S := S) (x := .func f cs) h (.func _ _ _ hl hr) hH hK
  | mp i b hi => exact xleaf_sound (S := S) (x := .mp i) h (.mp _ _ hi) hH hK
def xdeeps (S : XH) : List A → Option (List D × XH)
  | [] => some ([], S)
  | c :: cs => xbind (xdeep S c) fun p => xbind (xdeeps p.2 cs) fun q => some (p.1 :: q.1, q.2)
theorem xdeeps_sound : ∀ {cs cs' : List A} {ds : List D} {S S' : XH} {H : Heap} (_ : xdeeps S cs = some (ds, S')) (_ : RSL L U cs cs') (_ : HS L U S H) {K : List D → Heap → Prop} (_ : ∀ H', HS L U S' H' → K ds H'), deepL H cs' K
  | [], _, ds, S, S', H, h, r, hH, K, hK => by
    cases r; cases h; rw [deepL_nil]; exact hK _ hH
  | c :: cs, _, ds, S, S', H, h, r, hH, K, hK => by
    cases r with
    | cons r t =>
      obtain ⟨⟨d, S1⟩, h1, h⟩ := xbind_some h
      obtain ⟨⟨ds1, S2⟩, h2, h⟩ := xbind_some h
      cases h
      rw [deepL_cons]
      refine xdeep_sound h1 r hH ?_
      intro H1 hH1
      exact xdeeps_sound h2 t hH1 hK
def xStore (P : Program) (t : TypeId) (S : XH) (x y : A) : Option XH := xbind (tshape P t) fun s => match x with
  | .ref i off => match S.at i with
    | some (.var cs) => xif y.good (xif (Nat.beq y.cells.length s.2) (xif (Nat.ble (off + s.2) cs.length) (some (S.set i (some (.var (setMany cs off y.cells)))))))
    | _ => none
  | .eref i v sz j off => xbind (xdeep S y) fun p => match p.2.at i with
    | some (.arr E sz' v' ds) => xbind ds[j]? fun e => xif (sameV v' v) (xif (Nat.beq sz' sz) (xif (Nat.beq p.1.cells.length s.2) (xif (Nat.ble (off + s.2) e.cells.length)
        (some (p.2.set i (some (.arr E sz' v' (ds.set j (e.withCells (setMany e.cells off p.1.cells))))))))))
    | _ => none
  | _ => none
theorem putE_of {y : A} {K : D → Heap → Prop} (h : deepK H y K) : putE H y K := by
  unfold putE
  split
  · exact .inl h
  · exact h
theorem xStore_sound {t : TypeId} {x x' y y' : A} {S' : XH} (h : xStore P t S x y = some S') (rx : RS L U x x') (ry : RS L U y y') (hH : HS L U S H) {K : Heap → Prop} (hK : ∀ H', HS L U S' H' → K H') : aStore P t x' y' H K := by
  obtain ⟨s, hs, h⟩ := xbind_some h
  cases rx with
  | ref i b off hi =>
    simp only at h
    split at h
    · rename_i cs ho
      obtain ⟨h1, h⟩ := xif_some h
      obtain ⟨h2, h⟩ := xif_some h
      obtain ⟨h3, h⟩ := xif_some h
      cases h
      obtain ⟨cs', h5, h6⟩ := var_at hH hi ho
      simp only [aStore_ref, hid, onVar, h5, hs, onSome, andK, letA]
      refine ⟨⟨by rw [ry.good]; exact h1, by rw [← ry.cells.length]; exact beq_eq' h2, by rw [← h6.length]; exact ble_le h3⟩, hK _ ?_⟩
      exact hH.put hi ho (.var (h6.setMany ry.cells off))
    · cases h
  | eref i b k v sz j off hi hv =>
    obtain ⟨⟨d, S1⟩, h1, h⟩ := xbind_some h
    simp only at h
    split at h
    · rename_i E sz' v' ds ho
      obtain ⟨e, he, h⟩ := xbind_some h
      obtain ⟨h2, h⟩ := xif_some h
      obtain ⟨h3, h⟩ := xif_some h
      obtain ⟨h4, h⟩ := xif_some h
      obtain ⟨h5, h⟩ := xif_some h
      cases h
      rw [aStore_eref]
      refine putE_of (xdeep_sound h1 ry hH ?_)
      intro H1 hH1
      have hrow := row_arr hH1 hi hv ho h2
      simp only [hid, arrOnly, hrow, hs, onSome, he, letA, andK]
      refine ⟨trivial, ⟨beq_eq' h3, beq_eq' h4, ble_le h5⟩, hK _ ?_⟩
      obtain ⟨o', h7, h8⟩ := hH1.obj i b _ hi ho
      cases h8 with
      | arr hv' =>
        have e := sameV_nat h2
        subst e
        exact hH1.put hi ho (.arr hv)
    · cases h
  | _ => cases h
def xnewVar (S : XH) (cs : List A) : Option (A × XH) := xbind (S.new (.var cs)) fun S' => some (.ref S.n 0, S')
theorem xnewVar_sound {cs cs' : List A} {y : A} {S' : XH} (h : xnewVar S cs = some (y, S')) (r : RSL L U cs cs') (hH : HS L U S H) {K : A → Heap → Prop} (hK : Behind2 L U y S' K) : newK H fun b => K (.ref b 0) (upd H b (.var cs')) := by
  intro b hb
  obtain ⟨S1, h1, h⟩ := xbind_some h
  cases h
  have hp := List.prefix_append L [b]
  refine hK (L ++ [b]) U _ _ hp (List.prefix_refl U) (.ref _ _ _ ?_) (hH.new hb (.var (r.mono hp (List.prefix_refl U))) h1)
  rw [hH.n]; simp
def xnewRow (S : XH) (E : TypeId) (sz : Nat) (ds : List D) : Option (A × XH) :=
  xbind ((⟨S.n, S.u + 1, S.t, S.f⟩ : XH).new (.arr E sz (.int .i64 (Int.ofNat S.u)) ds)) fun S' => some (.own S.n (.int .i64 (Int.ofNat S.u)), S')
theorem xnewRow_at {E : TypeId} {sz : Nat} {ds : List D} {y : A} {S' : XH} (h : xnewRow S E sz ds = some (y, S')) (hH : HS L U S H) {K : A → Heap → Prop} (hK : Behind2 L U y S' K) {b : Nat} {v : Value} (hb : H b = none) : K (.own b v) (upd H b (.arr E sz v ds)) := by
  obtain ⟨S1, h1, h⟩ := xbind_some h
  cases h
  have hp := List.prefix_append L [b]
  have hu := List.prefix_append U [v]
  have hv : (U ++ [v])[S.u]? = some v := by rw [hH.u]; simp
  refine hK (L ++ [b]) (U ++ [v]) _ _ hp hu (.own _ _ _ _ ?_ hv) ((hH.val v).new hb (.arr hv) h1)
  rw [hH.n]; simp
theorem xnewRow_sound {E : TypeId} {sz : Nat} {ds : List D} {y : A} {S' : XH} (h : xnewRow S E sz ds = some (y, S')) (hH : HS L U S H) {K : A → Heap → Prop} (hK : Behind2 L U y S' K) : newV H fun b v => K (.own b v) (upd H b (.arr E sz v ds)) :=
  fun _ _ hb _ => xnewRow_at h hH hK hb
def xnewLit (S : XH) (E : TypeId) (sz : Nat) (ds : List D) : Option (A × XH) :=
  xbind ((⟨S.n, S.u + 1, S.t, S.u :: S.f⟩ : XH).new (.arr E sz (.int .i64 (Int.ofNat S.u)) ds)) fun S' => some (.own S.n (.int .i64 (Int.ofNat S.u)), S')
theorem xnewLit_sound {E : TypeId} {sz n : Nat} {ds : List D} {y : A} {S' : XH} (h : xnewLit S E sz ds = some (y, S')) (hH : HS L U S H) {K : A → Heap → Prop} (hK : Behind2 L U y S' K) : newK H fun b => K (.own b (litV b n)) (upd H b (.arr E sz (litV b n) ds)) := by
  intro b hb
  obtain ⟨S1, h1, h⟩ := xbind_some h
  cases h
  have hp := List.prefix_append L [b]
  have hu := List.prefix_append U [litV b n]
  have hv : (U ++ [litV b n])[S.u]? = some (litV b n) := by rw [hH.u]; simp
  refine hK (L ++ [b]) (U ++ [litV b n]) _ _ hp hu (.own _ _ _ _ ?_ hv) ((hH.lit (litV_full b n)).new hb (.arr hv) h1)
  rw [hH.n]; simp
def xnewRowL (u8 : Bool) (S : XH) (E : TypeId) (sz : Nat) (ds : List D) : Option (A × XH) := match u8 with
  | true => xnewLit S E sz ds
  | false => xnewRow S E sz ds
theorem xnewRowL_sound {u8 : Bool} {E : TypeId} {sz n : Nat} {ds : List D} {y : A} {S' : XH} (h : xnewRowL u8 S E sz ds = some (y, S')) (hH : HS L U S H) {K : A → Heap → Prop} (hK : Behind2 L U y S' K) : rowK u8 n H fun b v => K (.own b v) (upd H b (.arr E sz v ds)) := by
  cases u8 with
  | true => exact xnewLit_sound h hH hK
  | false => exact xnewRow_sound h hH hK
def xgrow (S : XH) (i : Nat) (E : TypeId) (sz : Nat) (ds : List D) : Option (A × XH) := xnewRow (S.set i none) E sz ds
theorem xgrow_sound {i b0 : Nat} {o0 : AObj} {E : TypeId} {sz : Nat} {ds : List D} {y : A} {S' : XH} (h : xgrow S i E sz ds = some (y, S')) (hi : L[i]? = some b0) (h0 : S.at i = some o0) (hH : HS L U S H) {K : A → Heap → Prop} (hK : Behind2 L U y S' K) :
    growV H b0 fun b' v' => K (.own b' v') (upd (del H b0) b' (.arr E sz v' ds)) := by
  intro b' v' hb' _
  refine xnewRow_at h (hH.del hi h0) hK ?_
  unfold del
  split
  · rfl
  · rename_i hne
    rcases hb' with rfl | hb'
    · exact (hne rfl).elim
    · exact hb'
theorem zeroCell_rs {v : Value} {x : A} (h : zeroCell v = some x) : RS L U x x := by
  unfold zeroCell at h
  split at h <;> cases h <;> first | exact .d _ | exact .nils
theorem zeroCells_rs : ∀ {vs : List Value} {xs : List A}, zeroCells vs = some xs → RSL L U xs xs
  | [], xs, h => by simp [zeroCells] at h; subst h; exact .nil
  | v :: vs, xs, h => by
    simp only [zeroCells] at h
    split at h
    · rename_i x ys hx hy
      cases h
      exact .cons (zeroCell_rs hx) (zeroCells_rs hy)
    · cases h
theorem zeroOf_rs {t : TypeId} {cs : List A} (h : zeroOf P t = some cs) : RSL L U cs cs := by
  unfold zeroOf at h
  split at h
  · split at h
    · exact zeroCells_rs h
    · cases h
  · cases h
def xAlloc (P : Program) (t : TypeId) (S : XH) : Option (A × XH) := xbind (zeroOf P t) fun cs => xnewVar S cs
theorem xAlloc_sound {t : TypeId} {y : A} {S' : XH} (h : xAlloc P t S = some (y, S')) (hH : HS L U S H) {K : A → Heap → Prop} (hK : Behind2 L U y S' K) : aAlloc P t H K := by
  obtain ⟨cs, h1, h⟩ := xbind_some h
  have := xnewVar_sound h (zeroOf_rs (L := L) (U := U) h1) hH hK
  unfold aAlloc
  rw [h1]
  exact this
def xBox (S : XH) (x : A) : Option (A × XH) := xif x.good (xnewVar S x.cells)
theorem xBox_sound {x x' y : A} {S' : XH} (h : xBox S x = some (y, S')) (r : RS L U x x') (hH : HS L U S H) {K : A → Heap → Prop} (hK : Behind2 L U y S' K) : aBox x' H K := by
  obtain ⟨h1, h⟩ := xif_some h
  exact ⟨by rw [r.good]; exact h1, xnewVar_sound h r.cells hH hK⟩
def xfill (pl : List (Nat × Nat)) : List A → List (Nat × A) → Option (List A)
  | cs, [] => some cs
  | cs, p :: rest => xbind pl[p.1]? fun q => xif p.2.good (xif (Nat.beq p.2.cells.length q.2) (xif (Nat.ble (q.1 + q.2) cs.length) (xfill pl (setMany cs q.1 p.2.cells) rest)))
abbrev RSP (L : List Nat) (U : List Value) : List (Nat × A) → List (Nat × A) → Prop := All2 fun p q => p.1 = q.1 ∧ RS L U p.2 q.2
theorem xfill_sound {pl : List (Nat × Nat)} : ∀ {parts parts' : List (Nat × A)} {cs cs' out : List A}, xfill pl cs parts = some out → RSP L U parts parts' → RSL L U cs cs' →
    ∃ out', RSL L U out out' ∧ ∀ K : List A → Prop, K out' → fillL pl cs' parts' K
  | [], _, cs, cs', out, h, r, rc => by
    cases r; cases h
    exact ⟨cs', rc, fun K hK => hK⟩
  | (i, x) :: rest, _, cs, cs', out, h, r, rc => by
    cases r with
    | @cons _ q _ rest' r t =>
      obtain ⟨i', x'⟩ := q
      obtain ⟨e, r⟩ := r
      simp only at e r
      subst e
      obtain ⟨q, h1, h⟩ := xbind_some h
      obtain ⟨h2, h⟩ := xif_some h
      obtain ⟨h3, h⟩ := xif_some h
      obtain ⟨h4, h⟩ := xif_some h
      obtain ⟨out', h5, h6⟩ := xfill_sound h t (rc.setMany r.cells q.1)
      refine ⟨out', h5, fun K hK => ?_⟩
      simp only [fillL, h1, onSome]
      exact ⟨by rw [r.good]; exact h2, by rw [← r.cells.length]; exact beq_eq' h3, by rw [← rc.length]; exact ble_le h4, h6 K hK⟩
theorem bldOf_rs {t : TypeId} {f : List A × List (Nat × Nat)} (h : bldOf P t = some f) : RSL L U f.1 f.1 := by
  unfold bldOf at h
  split at h
  · rename_i len e hu
    cases hi : P.info? e with
    | none => rw [hi] at h; cases h
    | some i =>
      cases hz : zeroOf P t with
      | none => rw [hi, hz] at h; cases h
      | some zs => rw [hi, hz] at h; cases h; exact zeroOf_rs hz
  · split at h
    · rename_i fs hu hh
      cases hz : zeroOf P t with
      | none => rw [hz] at h; cases h
      | some zs => rw [hz] at h; cases h; exact zeroOf_rs hz
    · cases h
  · cases h
def xBuild (P : Program) (t : TypeId) (parts : List (Nat × A)) : Option A := xbind (bldOf P t) fun f => xbind (xfill f.2 f.1 parts) fun cs => some (aggN cs)
theorem xBuild_sound {t : TypeId} {parts parts' : List (Nat × A)} {y : A} (h : xBuild P t parts = some y) (r : RSP L U parts parts') : ∃ y', RS L U y y' ∧ ∀ K : A → Prop, K y' → aBuild P t parts' K := by
  obtain ⟨f, h1, h⟩ := xbind_some h
  obtain ⟨cs, h2, h⟩ := xbind_some h
  cases h
  obtain ⟨cs', h3, h4⟩ := xfill_sound h2 r (bldOf_rs h1)
  refine ⟨_, RS.aggN h3, fun K hK => ?_⟩
  simp only [aBuild_eq, h1, hid, onSome, letA]
  exact h4 _ hK
def eqL : List Nat → List Nat → Bool
  | [], [] => true
  | x :: xs, y :: ys => Nat.beq x y && eqL xs ys
  | _, _ => false
theorem eqL_eq : ∀ {xs ys : List Nat}, eqL xs ys = true → xs = ys
  | [], [], _ => rfl
  | x :: xs, y :: ys, h => by
    simp only [eqL, Bool.and_eq_true] at h
    rw [beq_eq' h.1, eqL_eq h.2]
def xszs (sz : Nat) : List D → Bool
  | [] => true
  | d :: ds => Nat.beq d.cells.length sz && xszs sz ds
theorem xszs_sound {sz : Nat} : ∀ {ds : List D}, xszs sz ds = true → szs sz ds
  | [], _ => fun _ h => by cases h
  | d :: ds, h => by
    simp only [xszs, Bool.and_eq_true] at h
    intro x hx
    rcases List.mem_cons.1 hx with rfl | hx
    · exact beq_eq' h.1
    · exact xszs_sound h.2 x hx
theorem RSP.fst {parts parts' : List (Nat × A)} (r : RSP L U parts parts') : parts'.map (·.1) = parts.map (·.1) := by
  induction r with
  | nil => rfl
  | cons h _ ih => simp only [List.map_cons, ih, h.1]
theorem RSP.snd {parts parts' : List (Nat × A)} (r : RSP L U parts parts') : RSL L U (parts.map (·.2)) (parts'.map (·.2)) := by
  induction r with
  | nil => exact .nil
  | cons h _ ih => exact .cons h.2 ih
def xBuildSlice (P : Program) (t : TypeId) (n : Nat) (parts : List (Nat × A)) (S : XH) : Option (A × XH) := xbind (bsOf P t) fun f =>
  xif (Nat.ble (n * f.2.1) 16777216) (xif (eqL (parts.map (·.1)) (List.range n)) (xbind (xdeeps S (parts.map (·.2))) fun p => xif (xszs f.2.1 p.1) (xnewRowL f.2.2 p.2 f.1 f.2.1 p.1)))
theorem xBuildSlice_sound {t : TypeId} {n : Nat} {parts parts' : List (Nat × A)} {y : A} {S' : XH} (h : xBuildSlice P t n parts S = some (y, S')) (r : RSP L U parts parts') (hH : HS L U S H) {K : A → Heap → Prop} (hK : Behind2 L U y S' K) : aBuildSlice P t n parts' H K := by
  obtain ⟨f, h1, h⟩ := xbind_some h
  obtain ⟨h2, h⟩ := xif_some h
  obtain ⟨h3, h⟩ := xif_some h
  obtain ⟨⟨ds, S1⟩, h4, h⟩ := xbind_some h
  obtain ⟨h5, h⟩ := xif_some h
  simp only [aBuildSlice_eq, h1, hid, onSome, andK, letA]
  refine ⟨ble_le h2, by rw [r.fst]; exact eqL_eq h3, xdeeps_sound h4 r.snd hH ?_⟩
  intro H1 hH1
  exact ⟨xszs_sound h5, xnewRowL_sound h hH1 hK⟩
def xInt : A → Option Int
  | .d (.int _ n) => some n
  | _ => none
theorem xInt_sound {x x' : A} {n : Int} (h : xInt x = some n) (r : RS L U x x') : ∃ k, x' = .d (.int k n) := by
  cases r with
  | d x =>
    cases x with
    | int k m => cases h; exact ⟨k, rfl⟩
    | _ => cases h
  | _ => cases h
def natOf : Int → Option Nat
  | .ofNat n => some n
  | .negSucc _ => none
theorem natOf_some {i : Int} {n : Nat} (h : natOf i = some n) : i = Int.ofNat n := by
  cases i with
  | ofNat m => cases h; rfl
  | negSucc m => cases h
def xNat (x : A) : Option Nat := xbind (xInt x) natOf
theorem xNat_sound {x x' : A} {n : Nat} (h : xNat x = some n) (r : RS L U x x') : ∃ k, x' = .d (.int k (Int.ofNat n)) := by
  obtain ⟨i, h1, h⟩ := xbind_some h
  obtain ⟨k, rfl⟩ := xInt_sound h1 r
  rw [natOf_some h]; exact ⟨k, rfl⟩
def xMakeSlice (P : Program) (t : TypeId) (l c : A) (S : XH) : Option (A × XH) := xbind (mkOf P t) fun f => xbind (xNat l) fun n => xbind (xNat c) fun m =>
  xif (Nat.beq m n) (xif (Nat.ble (n * f.2.2.1) 140737488355328) (xnewRow S f.1 f.2.1 (List.replicate n f.2.2.2)))
theorem xMakeSlice_sound {t : TypeId} {l l' c c' y : A} {S' : XH} (h : xMakeSlice P t l c S = some (y, S')) (rl : RS L U l l') (rc : RS L U c c') (hH : HS L U S H) {K : A → Heap → Prop} (hK : Behind2 L U y S' K) : aMakeSlice P t l' c' H K := by
  obtain ⟨f, h1, h⟩ := xbind_some h
  obtain ⟨n, h2, h⟩ := xbind_some h
  obtain ⟨m, h3, h⟩ := xbind_some h
  obtain ⟨h4, h⟩ := xif_some h
  obtain ⟨h5, h⟩ := xif_some h
  obtain ⟨k, rfl⟩ := xNat_sound h2 rl
  obtain ⟨k', rfl⟩ := xNat_sound h3 rc
  have e := beq_eq' h4
  subst e
  have := ble_le h5
  simp only [aMakeSlice_eq, h1, hid, onSome, onInt, intA, andK, letA]
  refine ⟨⟨trivial, Int.natCast_nonneg _, ?_⟩, xnewRow_sound h hH hK⟩
  have h6 : ((m * f.2.2.1 : Nat) : Int) ≤ ((140737488355328 : Nat) : Int) := Int.ofNat_le.2 this
  simpa using h6
def xsrc (S : XH) : A → Option (List D)
  | .d (.slice es) => some es
  | .nils => some []
  | .own i v => match S.at i with
    | some (.arr _ _ v' ds) => xif (sameV v' v) (some ds)
    | some (.frz v' ds) => xif (sameV v' v) (some ds)
    | _ => none
  | _ => none
theorem xsrc_sound {x x' : A} {ns : List D} (h : xsrc S x = some ns) (r : RS L U x x') (hH : HS L U S H) {K : List D → Prop} (hK : K ns) : srcK H x' K := by
  cases r with
  | d x =>
    cases x with
    | slice es => cases h; exact hK
    | _ => cases h
  | nils => cases h; exact hK
  | own i b k v hi hv =>
    simp only [xsrc] at h
    rw [srcK_own]
    split at h
    · rename_i ho
      obtain ⟨h1, h⟩ := xif_some h
      cases h
      simp only [hid, onArr, row_arr hH hi hv ho h1]; exact ⟨trivial, hK⟩
    · rename_i ho
      obtain ⟨h1, h⟩ := xif_some h
      cases h
      simp only [hid, onArr, row_frz hH hi hv ho h1]; exact ⟨trivial, hK⟩
    · cases h
  | _ => cases h
def memN (k : Nat) : List Nat → Bool
  | [] => false
  | x :: l => Nat.beq x k || memN k l
theorem memN_mem {k : Nat} : ∀ {l : List Nat}, memN k l = true → k ∈ l
  | x :: l, h => by
    simp only [memN, Bool.or_eq_true] at h
    rcases h with h | h
    · rw [beq_eq' h]; exact .head _
    · exact .tail _ (memN_mem h)
def xfull (S : XH) : Value → Bool
  | .int .i64 (.ofNat k) => memN k S.f
  | _ => false
def some1 {α : Type} : List α → Bool
  | [] => false
  | _ :: _ => true
theorem some1_ne {α : Type} {l : List α} (h : some1 l = true) : l ≠ [] := by rintro rfl; cases h
def xAppend (P : Program) (t : TypeId) (S : XH) (dst src : A) : Option (A × XH) := xbind (appOf P t) fun f => xbind (xsrc S src) fun ns => xif (xszs f.2.1 ns) (match dst with
  | .nils => match ns with
    | [] => some (.nils, S)
    | n :: ns => xif (Nat.ble ((ns.length + 1) * f.2.2) 140737488355328) (xnewRow S f.1 f.2.1 (n :: ns))
  | .own i v => match S.at i with
    | some (.arr E sz' v' ds) => xif (sameV v' v) (xif (Nat.beq E f.1) (xif (Nat.beq sz' f.2.1) (xif (Nat.ble ((ds.length + ns.length) * f.2.2) 140737488355328) (xgrow S i f.1 f.2.1 (ds ++ ns)))))
    | some (.frz v' ds) => xif (sameV v' v) (xif (xfull S v) (xif (some1 ns && some1 ds && xszs f.2.1 ds) (xif (Nat.ble ((ds.length + ns.length) * f.2.2) 140737488355328) (xnewRow S f.1 f.2.1 (ds ++ ns)))))
    | _ => none
  | .d (.slice es) => match ns with
    | [] => some (.d (.slice es), S)
    | _ :: _ => none
  | _ => none)
theorem xAppend_sound {t : TypeId} {dst dst' src src' y : A} {S' : XH} (h : xAppend P t S dst src = some (y, S')) (rd : RS L U dst dst') (rs : RS L U src src') (hH : HS L U S H) {K : A → Heap → Prop} (hK : Behind2 L U y S' K) : aAppend P t dst' src' H K := by
  obtain ⟨f, h1, h⟩ := xbind_some h
  obtain ⟨ns, h2, h⟩ := xbind_some h
  obtain ⟨h3, h⟩ := xif_some h
  simp only [aAppend_eq, h1, hid, onSome]
  refine xsrc_sound h2 rs hH ⟨xszs_sound h3, ?_⟩
  cases rd with
  | nils =>
    simp only at h
    split at h
    · cases h
      exact ⟨by simp, fun _ => hK _ _ _ _ (List.prefix_refl L) (List.prefix_refl U) .nils hH, fun hh => (hh rfl).elim⟩
    · rename_i n ns
      obtain ⟨h4, h⟩ := xif_some h
      rw [appTo_nils]
      exact ⟨ble_le h4, xnewRow_sound h hH hK⟩
  | own i b k v hi hv =>
    simp only at h
    split at h
    · rename_i E sz' v' ds ho
      obtain ⟨h4, h⟩ := xif_some h
      obtain ⟨h5, h⟩ := xif_some h
      obtain ⟨h6, h⟩ := xif_some h
      obtain ⟨h7, h⟩ := xif_some h
      rw [appTo_own]
      simp only [hid, onArr, row_arr hH hi hv ho h4, andK, letA]
      exact ⟨trivial, ⟨beq_eq' h5, beq_eq' h6, ble_le h7⟩, xgrow_sound h hi ho hH hK⟩
    · rename_i v' ds ho
      obtain ⟨h4, h⟩ := xif_some h
      obtain ⟨h5, h⟩ := xif_some h
      obtain ⟨h6, h⟩ := xif_some h
      obtain ⟨h7, h⟩ := xif_some h
      simp only [Bool.and_eq_true] at h6
      obtain ⟨w, h8, h9⟩ := hH.full k (memN_mem h5)
      rw [hv] at h8; cases h8
      rw [appTo_own]
      simp only [hid, onArr, row_frz hH hi hv ho h4, andK, letA]
      exact ⟨trivial, ⟨h9, some1_ne h6.1.1, some1_ne h6.1.2, xszs_sound h6.2, ble_le h7⟩, xnewRow_sound h hH hK⟩
    · cases h
  | d x =>
    cases x with
    | slice es =>
      simp only at h
      split at h
      · cases h
        exact ⟨rfl, hK _ _ _ _ (List.prefix_refl L) (List.prefix_refl U) (.d _) hH⟩
      · cases h
    | _ => cases h
  | _ => cases h
def xLen (S : XH) : A → Option A
  | .d (.str s) => some (.d (.int .i64 (Int.ofNat s.size)))
  | .d (.slice es) => some (.d (.int .i64 (Int.ofNat es.length)))
  | .nils => some (.d (.int .i64 (Int.ofNat 0)))
  | .own i v => match S.at i with
    | some (.arr _ _ v' ds) => xif (sameV v' v) (some (.d (.int .i64 (Int.ofNat ds.length))))
    | some (.frz v' ds) => xif (sameV v' v) (some (.d (.int .i64 (Int.ofNat ds.length))))
    | _ => none
  | .mp i => match S.at i with
    | some (.map _ m) => some (.d (.int .i64 (Int.ofNat m.length)))
    | _ => none
  | _ => none
theorem xLen_sound {x x' y : A} (h : xLen S x = some y) (r : RS L U x x') (hH : HS L U S H) : RS L U y y ∧ ∀ K : A → Prop, K y → aLen x' H K := by
  cases r with
  | d x =>
    cases x with
    | slice es => cases h; exact ⟨.d _, fun K hK => hK⟩
    | str s => cases h; exact ⟨.d _, fun K hK => hK⟩
    | _ => cases h
  | nils => cases h; exact ⟨.d _, fun K hK => hK⟩
  | own i b k v hi hv =>
    simp only [xLen] at h
    split at h
    · rename_i ho
      obtain ⟨h1, h⟩ := xif_some h
      cases h
      exact ⟨.d _, fun K hK => by rw [aLen_own]; simp only [hid, onArr, row_arr hH hi hv ho h1]; exact ⟨trivial, hK⟩⟩
    · rename_i ho
      obtain ⟨h1, h⟩ := xif_some h
      cases h
      exact ⟨.d _, fun K hK => by rw [aLen_own]; simp only [hid, onArr, row_frz hH hi hv ho h1]; exact ⟨trivial, hK⟩⟩
    · cases h
  | mp i b hi =>
    simp only [xLen] at h
    split at h
    · rename_i s m ho
      cases h
      obtain ⟨o', h1, h2⟩ := hH.obj i b _ hi ho
      cases h2
      exact ⟨.d _, fun K hK => by rw [aLen_mp]; simp only [hid, onMap, h1]; exact hK⟩
    · cases h
  | _ => cases h
theorem lenable_rs {t : TypeId} {x x' : A} (r : RS L U x x') : lenable P t x' = lenable P t x := by
  cases r <;> (unfold lenable; cases P.underlying t with
    | none => rfl
    | some u => cases u <;> rfl)
def xbounds (lo hi : Option A) (n : Nat) : Option (Nat × Nat) := match hi with
  | none => match lo with
    | none => some (0, n)
    | some a => xbind (xNat a) fun l => xif (Nat.ble l n) (some (l, n))
  | some c => xbind (xNat c) fun h => xif (Nat.ble h n) (match lo with
    | none => some (0, h)
    | some a => xbind (xNat a) fun l => xif (Nat.ble l h) (some (l, h)))
inductive RSO (L : List Nat) (U : List Value) : Option A → Option A → Prop
  | none : RSO L U none none
  | some {x y : A} (h : RS L U x y) : RSO L U (some x) (some y)
theorem xbounds_sound {lo lo' hi hi' : Option A} {n : Nat} {p : Nat × Nat} (h : xbounds lo hi n = some p) (rl : RSO L U lo lo') (rh : RSO L U hi hi') {K : Nat → Nat → Prop} (hK : K p.1 p.2) : bounds lo' hi' n K := by
  cases rh with
  | none =>
    cases rl with
    | none => cases h; exact hK
    | some r =>
      obtain ⟨l, h1, h⟩ := xbind_some h
      obtain ⟨h2, h⟩ := xif_some h
      cases h
      obtain ⟨k, rfl⟩ := xNat_sound h1 r
      exact ⟨Int.natCast_nonneg _, ble_le h2, hK⟩
  | some r' =>
    obtain ⟨m, h1, h⟩ := xbind_some h
    obtain ⟨h2, h⟩ := xif_some h
    obtain ⟨k, rfl⟩ := xNat_sound h1 r'
    cases rl with
    | none => cases h; exact ⟨Int.natCast_nonneg _, ble_le h2, hK⟩
    | some r =>
      obtain ⟨l, h3, h⟩ := xbind_some h
      obtain ⟨h4, h⟩ := xif_some h
      cases h
      obtain ⟨k', rfl⟩ := xNat_sound h3 r
      exact ⟨Int.natCast_nonneg _, ble_le h2, Int.natCast_nonneg _, ble_le h4, hK⟩
theorem extract_list (s : ByteArray) (a b : Nat) : s.extract a b = ⟨⟨(s.data.toList.drop a).take (b - a)⟩⟩ := by
  have := ByteArray.extract_mk s.data.toList a b
  simpa using this
def xSlice (P : Program) (t : TypeId) (S : XH) (x : A) (lo hi : Option A) : Option (A × XH) := xbind (sliceOf P t) fun
  | none => match x with
    | .d (.str s) => xbind (xbounds lo hi s.size) fun p => some (.d (.str ⟨⟨(s.data.toList.drop p.1).take (p.2 - p.1)⟩⟩), S)
    | _ => none
  | some sz => match x with
    | .nils => xbind (xbounds lo hi 0) fun _ => some (.nils, S)
    | .d (.slice es) => xif (xszs sz es) (xbind (xbounds lo hi es.length) fun p => some (.d (.slice ((es.take p.2).drop p.1)), S))
    | .own i v => match S.at i with
      | some (.arr E sz' v' ds) => xif (sameV v' v) (xif (Nat.beq sz sz') (match lo with
        | none => xbind (xbounds none hi ds.length) fun p => some (.own i (.int .i64 (Int.ofNat S.u)), (⟨S.n, S.u + 1, S.t, S.f⟩ : XH).set i (some (.arr E sz' (.int .i64 (Int.ofNat S.u)) (ds.take p.2))))
        | some a => xbind (xbounds (some a) hi ds.length) fun p => some (.d (.slice ((ds.take p.2).drop p.1)), S.set i (some (.frz v' ds)))))
      | some (.frz v' ds) => xif (sameV v' v) (xif (xszs sz ds) (xbind (xbounds lo hi ds.length) fun p => some (.d (.slice ((ds.take p.2).drop p.1)), S)))
      | _ => none
    | _ => none
theorem xSlice_sound {t : TypeId} {x x' y : A} {lo lo' hi hi' : Option A} {S' : XH} (h : xSlice P t S x lo hi = some (y, S')) (r : RS L U x x') (rl : RSO L U lo lo') (rh : RSO L U hi hi') (hH : HS L U S H) {K : A → Heap → Prop} (hK : Behind2 L U y S' K) : aSlice P t x' lo' hi' H K := by
  obtain ⟨f, h1, h⟩ := xbind_some h
  simp only [aSlice_eq, h1, hid, onSome]
  have pL := List.prefix_refl L
  have pU := List.prefix_refl U
  cases f with
  | none =>
    cases r with
    | d x =>
      cases x with
      | str s =>
        obtain ⟨p, h2, h⟩ := xbind_some h
        cases h
        refine xbounds_sound (K := fun l m => K (.d (.str (s.extract l m))) H) h2 rl rh ?_
        rw [extract_list]
        exact hK _ _ _ _ pL pU (.d _) hH
      | _ => cases h
    | _ => cases h
  | some sz =>
    cases r with
    | nils =>
      obtain ⟨p, h2, h⟩ := xbind_some h
      cases h
      exact xbounds_sound (K := fun _ _ => K .nils H) h2 rl rh (hK _ _ _ _ pL pU .nils hH)
    | d x =>
      cases x with
      | slice es =>
        obtain ⟨h3, h⟩ := xif_some h
        obtain ⟨p, h2, h⟩ := xbind_some h
        cases h
        exact ⟨xszs_sound h3, xbounds_sound (K := fun l m => K (.d (.slice ((es.take m).drop l))) H) h2 rl rh (hK _ _ _ _ pL pU (.d _) hH)⟩
      | _ => cases h
    | own i b k v hi0 hv =>
      simp only at h
      split at h
      · rename_i E sz' v' ds ho
        obtain ⟨h3, h⟩ := xif_some h
        obtain ⟨h4, h⟩ := xif_some h
        have hrow := row_arr hH hi0 hv ho h3
        have e := beq_eq' h4
        subst e
        cases rl with
        | none =>
          obtain ⟨p, h2, h⟩ := xbind_some h
          cases h
          rw [slA_own_n]
          simp only [hid, onArr, hrow, andK]
          refine ⟨trivial, trivial, xbounds_sound h2 .none rh ?_⟩
          intro v2 _
          have hv2 : (U ++ [v2])[S.u]? = some v2 := by rw [hH.u]; simp
          have hp := List.prefix_append U [v2]
          have := (hH.val v2).put hi0 (by exact ho) (.arr (ds := ds.take p.2) (E := E) (sz := sz) hv2)
          exact hK _ _ _ _ pL hp (.own _ _ _ _ hi0 hv2) this
        | @some a a' ra =>
          obtain ⟨p, h2, h⟩ := xbind_some h
          cases h
          rw [slA_own_s]
          simp only [hid, onArr, hrow, andK]
          refine ⟨trivial, trivial, xbounds_sound h2 (.some ra) rh ?_⟩
          obtain ⟨o', h7, h8⟩ := hH.obj i b _ hi0 ho
          cases h8 with
          | arr hv' =>
            have e := sameV_nat h3
            subst e
            exact hK _ _ _ _ pL pU (.d _) (hH.put hi0 ho (.frz hv))
      · rename_i v' ds ho
        obtain ⟨h3, h⟩ := xif_some h
        obtain ⟨h4, h⟩ := xif_some h
        obtain ⟨p, h2, h⟩ := xbind_some h
        cases h
        have hrow := row_frz hH hi0 hv ho h3
        have hb := xbounds_sound h2 rl rh (K := fun l m => K (.d (.slice ((ds.take m).drop l))) H) (hK _ _ _ _ pL pU (.d _) hH)
        cases rl with
        | none => rw [slA_own_n]; simp only [hid, onArr, hrow, andK]; exact ⟨trivial, xszs_sound h4, hb⟩
        | some ra => rw [slA_own_s]; simp only [hid, onArr, hrow, andK]; exact ⟨trivial, xszs_sound h4, hb⟩
      · cases h
    | _ => cases h
def xIndexAddrS (P : Program) (t : TypeId) (S : XH) (x i : A) : Option A := xbind (idxOf P t) fun sz => xbind (xNat i) fun n => match x with
  | .d (.slice es) => xbind es[n]? fun d => xif (Nat.beq d.cells.length sz) (some (.imm d.cells))
  | .own j v => match S.at j with
    | some (.arr _ sz' v' ds) => xif (sameV v' v) (xif (Nat.beq sz' sz) (xif (Nat.blt n ds.length) (some (.eref j v sz n 0))))
    | some (.frz v' es) => xif (sameV v' v) (xbind es[n]? fun d => xif (Nat.beq d.cells.length sz) (some (.imm d.cells)))
    | _ => none
  | _ => none
theorem blt_lt {a b : Nat} (h : Nat.blt a b = true) : a < b := Nat.le_of_ble_eq_true h
theorem xIndexAddrS_sound {t : TypeId} {x x' i i' y : A} (h : xIndexAddrS P t S x i = some y) (r : RS L U x x') (ri : RS L U i i') (hH : HS L U S H) : ∃ y', RS L U y y' ∧ ∀ K : A → Prop, K y' → aIndexAddrS P t x' i' H K := by
  obtain ⟨sz, h1, h⟩ := xbind_some h
  obtain ⟨n, h2, h⟩ := xbind_some h
  obtain ⟨k, rfl⟩ := xNat_sound h2 ri
  have hn : 0 ≤ Int.ofNat n := Int.natCast_nonneg _
  cases r with
  | d x =>
    cases x with
    | slice es =>
      obtain ⟨d, h3, h⟩ := xbind_some h
      obtain ⟨h4, h⟩ := xif_some h
      cases h
      refine ⟨_, .imm _, fun K hK => ?_⟩
      simp only [aIndexAddrS_eq, h1, hid, onSome, onInt, intA, andK, letA]
      refine ⟨hn, ?_⟩
      rw [idxA_slice]
      simp only [hid, Int.ofNat_eq_natCast, Int.toNat_natCast, h3, onSome, andK, letA]
      exact ⟨beq_eq' h4, hK⟩
    | _ => cases h
  | own j b k' v hj hv =>
    simp only at h
    split at h
    · rename_i E sz' v' ds ho
      obtain ⟨h3, h⟩ := xif_some h
      obtain ⟨h4, h⟩ := xif_some h
      obtain ⟨h5, h⟩ := xif_some h
      cases h
      refine ⟨_, .eref _ _ _ _ _ _ _ hj hv, fun K hK => ?_⟩
      simp only [aIndexAddrS_eq, h1, hid, onSome, onInt, intA, andK, letA]
      refine ⟨hn, ?_⟩
      rw [idxA_own]
      simp only [hid, onArr, row_arr hH hj hv ho h3, andK, Int.ofNat_eq_natCast, Int.toNat_natCast]
      exact ⟨trivial, ⟨beq_eq' h4, blt_lt h5⟩, hK⟩
    · rename_i v' ds ho
      obtain ⟨h3, h⟩ := xif_some h
      obtain ⟨d, h4, h⟩ := xbind_some h
      obtain ⟨h5, h⟩ := xif_some h
      cases h
      refine ⟨_, .imm _, fun K hK => ?_⟩
      simp only [aIndexAddrS_eq, h1, hid, onSome, onInt, intA, andK, letA]
      refine ⟨hn, ?_⟩
      rw [idxA_own]
      simp only [hid, onArr, row_frz hH hj hv ho h3, andK, letA, Int.ofNat_eq_natCast, Int.toNat_natCast, h4, onSome]
      exact ⟨trivial, beq_eq' h5, hK⟩
    · cases h
  | _ => cases h
def xIndexAddr (P : Program) (t : TypeId) (S : XH) (x i : A) : Option A := match x with
  | .ref j off => xbind (arrOf P t) fun p => xbind (xNat i) fun n => xif (Nat.blt n p.1) (some (.ref j (off + n * p.2.2)))
  | x => xIndexAddrS P t S x i
theorem xIndexAddr_sound {t : TypeId} {x x' i i' y : A} (h : xIndexAddr P t S x i = some y) (r : RS L U x x') (ri : RS L U i i') (hH : HS L U S H) : ∃ y', RS L U y y' ∧ ∀ K : A → Prop, K y' → aIndexAddr P t x' i' H K := by
  cases r with
  | ref j b off hj =>
    obtain ⟨p, h1, h⟩ := xbind_some h
    obtain ⟨n, h2, h⟩ := xbind_some h
    obtain ⟨h3, h⟩ := xif_some h
    cases h
    obtain ⟨k, rfl⟩ := xNat_sound h2 ri
    refine ⟨_, .ref _ _ _ hj, fun K hK => ?_⟩
    simp only [aIndexAddr_ref, h1, hid, onSome, onInt, intA, andK, letA, Int.ofNat_eq_natCast, Int.toNat_natCast]
    exact ⟨⟨Int.natCast_nonneg _, blt_lt h3⟩, hK⟩
  | d x => exact xIndexAddrS_sound (x := .d x) h (.d x) ri hH
  | own j b k v hj hv => exact xIndexAddrS_sound (x := .own j (.int .i64 (Int.ofNat k))) h (.own _ _ _ _ hj hv) ri hH
  | undef => exact xIndexAddrS_sound (x := .undef) h .undef ri hH
  | nils => exact xIndexAddrS_sound (x := .nils) h .nils ri hH
  | agg cs cs' hl hr => exact xIndexAddrS_sound (x := .agg cs) h (.agg _ _ hl hr) ri hH
  | tup cs cs' hl hr => exact xIndexAddrS_sound (x := .tup cs) h (.tup _ _ hl hr) ri hH
  | imm cs => exact xIndexAddrS_sound (x := .imm cs) h (.imm _) ri hH
  | eref i b k v sz j off hi hv => exact xIndexAddrS_sound (x := .eref i (.int .i64 (Int.ofNat k)) sz j off) h (.eref _ _ _ _ _ _ _ hi hv) ri hH
  | func f cs cs' hl hr => exact xIndexAddrS_sound (x := .func f cs) h (.func _ _ _ hl hr) ri hH
  | mp i b hi => exact xIndexAddrS_sound (x := .mp i) h (.mp _ _ hi) ri hH
def xIndex (P : Program) (t : TypeId) (x i : A) : Option A := match x with
  | .d (.str s) => xif (isStrT P t) (xbind (xNat i) fun n => xbind s.data.toList[n]? fun b => some (.d (.int .u8 (Int.ofNat b.toNat))))
  | .d (.agg cs) => xbind (arrOf P t) fun p => xbind (xNat i) fun n => xif (Nat.blt n p.1) (xldD p.2 cs (n * p.2.2))
  | .agg cs => xbind (arrOf P t) fun p => xbind (xNat i) fun n => xif (Nat.blt n p.1) (xld p.2 cs (n * p.2.2))
  | _ => none
theorem bytes_at (s : ByteArray) (n : Nat) : s[n]? = s.data.toList[n]? := by
  rw [Array.getElem?_toList]
  by_cases h : n < s.size
  · rw [getElem?_pos s n h, getElem?_pos s.data n h]; rfl
  · rw [getElem?_neg s n h, getElem?_neg s.data n h]
theorem xIndex_sound {t : TypeId} {x x' i i' y : A} (h : xIndex P t x i = some y) (r : RS L U x x') (ri : RS L U i i') : ∃ y', RS L U y y' ∧ ∀ K : A → Prop, K y' → aIndex P t x' i' K := by
  cases r with
  | d x =>
    cases x with
    | str s =>
      obtain ⟨h1, h⟩ := xif_some h
      obtain ⟨n, h2, h⟩ := xbind_some h
      obtain ⟨b, h3, h⟩ := xbind_some h
      cases h
      obtain ⟨k, rfl⟩ := xNat_sound h2 ri
      refine ⟨_, .d _, fun K hK => ?_⟩
      simp only [aIndex_str, aIndexS_eq, h1, hid, onInt, intA, andK, Int.ofNat_eq_natCast, Int.toNat_natCast, bytes_at, h3, onSome]
      exact ⟨trivial, Int.natCast_nonneg _, hK⟩
    | agg cs =>
      obtain ⟨p, h1, h⟩ := xbind_some h
      obtain ⟨n, h2, h⟩ := xbind_some h
      obtain ⟨h3, h⟩ := xif_some h
      obtain ⟨k, rfl⟩ := xNat_sound h2 ri
      obtain ⟨h4, h5⟩ := xldD_sound (L := L) (U := U) h
      refine ⟨y, h4, fun K hK => ?_⟩
      simp only [aIndex_dagg, h1, hid, onSome, onInt, intA, andK, letA, Int.ofNat_eq_natCast, Int.toNat_natCast]
      exact ⟨⟨Int.natCast_nonneg _, blt_lt h3⟩, h5 K hK⟩
    | _ => cases h
  | agg cs cs' hl hr =>
    obtain ⟨p, h1, h⟩ := xbind_some h
    obtain ⟨n, h2, h⟩ := xbind_some h
    obtain ⟨h3, h⟩ := xif_some h
    obtain ⟨k, rfl⟩ := xNat_sound h2 ri
    obtain ⟨y', h4, h5⟩ := xld_sound h (.of hl hr)
    refine ⟨y', h4, fun K hK => ?_⟩
    simp only [aIndex_agg, h1, hid, onSome, onInt, intA, andK, letA, Int.ofNat_eq_natCast, Int.toNat_natCast]
    exact ⟨⟨Int.natCast_nonneg _, blt_lt h3⟩, h5 K hK⟩
  | _ => cases h
def xaddO (x : A) (o : Nat) : Option A := match x with
  | .ref i off => some (.ref i (off + o))
  | .imm ds => xif (Nat.ble o ds.length) (some (.imm (ds.drop o)))
  | .eref i v sz j off => some (.eref i v sz j (off + o))
  | _ => none
theorem xaddO_sound {x x' y : A} {o : Nat} (h : xaddO x o = some y) (r : RS L U x x') : ∃ y', RS L U y y' ∧ ∀ K : A → Prop, K y' → addO x' o K := by
  cases r with
  | ref i b off hi => cases h; exact ⟨_, .ref _ _ _ hi, fun K hK => hK⟩
  | imm ds =>
    obtain ⟨h1, h⟩ := xif_some h
    cases h
    exact ⟨_, .imm _, fun K hK => ⟨ble_le h1, hK⟩⟩
  | eref i b k v sz j off hi hv => cases h; exact ⟨_, .eref _ _ _ _ _ _ _ hi hv, fun K hK => hK⟩
  | _ => cases h
def xField (P : Program) (s : TypeId) (f : Nat) (x : A) : Option A := xbind (fieldOff P s f) fun o => xaddO x o
theorem xField_sound {s : TypeId} {f : Nat} {x x' y : A} (h : xField P s f x = some y) (r : RS L U x x') : ∃ y', RS L U y y' ∧ ∀ K : A → Prop, K y' → aField P s x' f K := by
  obtain ⟨o, h1, h⟩ := xbind_some h
  obtain ⟨y', h2, h3⟩ := xaddO_sound h r
  refine ⟨y', h2, fun K hK => ?_⟩
  simp only [aField_eq, h1, hid, onSome]
  exact h3 K hK
def xFieldOf (P : Program) (s : TypeId) (f : Nat) (x : A) : Option A := xbind (partAt P s f) fun p => match x with
  | .agg cs => xld p.1 cs p.2
  | .d (.agg cs) => xldD p.1 cs p.2
  | _ => none
theorem xFieldOf_sound {s : TypeId} {f : Nat} {x x' y : A} (h : xFieldOf P s f x = some y) (r : RS L U x x') : ∃ y', RS L U y y' ∧ ∀ K : A → Prop, K y' → aFieldOf P s x' f K := by
  obtain ⟨p, h1, h⟩ := xbind_some h
  cases r with
  | agg cs cs' hl hr =>
    obtain ⟨y', h2, h3⟩ := xld_sound h (.of hl hr)
    refine ⟨y', h2, fun K hK => ?_⟩
    simp only [aFieldOf_eq, h1, hid, onSome]
    exact h3 K hK
  | d x =>
    cases x with
    | agg cs =>
      obtain ⟨h2, h3⟩ := xldD_sound (L := L) (U := U) h
      refine ⟨y, h2, fun K hK => ?_⟩
      simp only [aFieldOf_eq, h1, hid, onSome]
      exact h3 K hK
    | _ => cases h
  | _ => cases h
end
end Go.Aug

/-
  The abstract layer, closed runs, part C: reckoning, comparing and converting; one operation; code; calls.
-/
namespace Go.Aug
def eqBytes : List UInt8 → List UInt8 → Bool
  | [], [] => true
  | a :: as, b :: bs => Nat.beq a.toNat b.toNat && eqBytes as bs
  | _, _ => false
theorem eqBytes_eq : ∀ (a b : List UInt8), eqBytes a b = decide (a = b)
  | [], [] => rfl
  | [], _ :: _ => rfl
  | _ :: _, [] => rfl
  | a :: as, b :: bs => by
    simp only [eqBytes, eqBytes_eq as bs]
    by_cases h : a = b
    · subst h; simp
    · have : Nat.beq a.toNat b.toNat = false := by
        cases hb : Nat.beq a.toNat b.toNat with
        | false => rfl
        | true => exact (h (UInt8.toNat_inj.1 (beq_eq' hb))).elim
      simp [this, h]
def strEq (a b : ByteArray) : Bool := eqBytes a.data.toList b.data.toList
theorem strEq_eq (a b : ByteArray) : strEq a b = decide (a = b) := by
  unfold strEq
  rw [eqBytes_eq]
  congr 1
  apply propext
  constructor
  · intro h; cases a with | mk a => cases b with | mk b => cases a; cases b; simp_all
  · rintro rfl; rfl
def strAdd (a b : ByteArray) : ByteArray := ⟨⟨a.data.toList ++ b.data.toList⟩⟩
theorem strAdd_eq (a b : ByteArray) : strAdd a b = a ++ b := by
  unfold strAdd
  have : (a ++ b).data = a.data ++ b.data := by simp
  cases h : a ++ b with
  | mk d =>
    rw [h] at this
    simp only at this
    subst this
    cases a with | mk a => cases b with | mk b => cases a; cases b; simp
section
variable {P : Program} {V : Env} {N : Nat} {L : List Nat} {U : List Value} {S : XH} {H : Heap}
def xArith (op : BinOp) (k : IntKind) (a b : Int) : Option A :=
  match op with
  | .add => some (.d (.int k (k.wrap (a + b))))
  | .sub => some (.d (.int k (k.wrap (a - b))))
  | .mul => some (.d (.int k (k.wrap (a * b))))
  | .quo => xif (!decide (b = 0)) (some (.d (.int k (k.wrap (a.tdiv b)))))
  | .rem => xif (!decide (b = 0)) (some (.d (.int k (a.tmod b))))
  | .and => some (.d (.int k (bits .and k a b)))
  | .or => some (.d (.int k (bits .or k a b)))
  | .xor => some (.d (.int k (bits .xor k a b)))
  | .andNot => some (.d (.int k (bits .andNot k a b)))
  | .eql => some (.d (.bool (decide (a = b))))
  | .neq => some (.d (.bool (!decide (a = b))))
  | .lss => some (.d (.bool (decide (a < b))))
  | .leq => some (.d (.bool (decide (a ≤ b))))
  | .gtr => some (.d (.bool (decide (b < a))))
  | .geq => some (.d (.bool (decide (b ≤ a))))
  | _ => none
theorem xArith_sound {op : BinOp} {k : IntKind} {a b : Int} {y : A} (h : xArith op k a b = some y) : RS L U y y ∧ ∀ K : A → Prop, K y → intOp op k a b K := by
  cases op <;> first
    | (cases h; exact ⟨.d _, fun K hK => hK⟩)
    | (obtain ⟨h1, h⟩ := xif_some h; cases h; exact ⟨.d _, fun K hK => ⟨by simpa using h1, hK⟩⟩)
    | cases h
def sameK : IntKind → IntKind → Bool := fun a b => decide (a = b)
def xleq : D → D → Bool
  | .int _ a, .int _ b => decide (a = b)
  | .str a, .str b => strEq a b
  | .bool a, .bool b => a == b
  | _, _ => false
theorem xleq_eq (x y : D) : xleq x y = leq x y := by
  cases x <;> cases y <;> first | rfl | exact strEq_eq _ _
def xleqL : List D → List D → Bool
  | [], [] => true
  | x :: xs, y :: ys => xleq x y && xleqL xs ys
  | _, _ => false
theorem xleqL_eq : ∀ xs ys : List D, xleqL xs ys = leqL xs ys
  | [], [] => rfl
  | [], _ :: _ => rfl
  | _ :: _, [] => rfl
  | x :: xs, y :: ys => by simp only [xleqL, leqL, xleq_eq, xleqL_eq xs ys]
def xEq (P : Program) (V : Env) (t : TypeId) (lit : Bool) (x y : A) : Option Bool := match x, y with
  | .d (.bool a), .d (.bool b) => xif (isBoolT P t) (some (a == b))
  | .d (.sent g), .d (.sent g') => xif (errTy P V t) (match V.G g, V.G g' with
    | some (.sent h), some (.sent h') => xif (Nat.beq h g) (xif (Nat.beq h' g') (some (decide (g = g'))))
    | _, _ => none)
  | .d (.sent _), .d (.raw .nilIface) => xif (isIface P t) (some false)
  | .d (.raw .nilIface), .d (.sent _) => xif (isIface P t) (some false)
  | .d (.raw .nilIface), .d (.raw .nilIface) => xif lit (xif (isIface P t) (some true))
  | .ref _ _, .d (.raw (.pointer none)) => xif (isPtrT P t) (some false)
  | .imm _, .d (.raw (.pointer none)) => xif (isPtrT P t) (some false)
  | .eref _ _ _ _ _, .d (.raw (.pointer none)) => xif (isPtrT P t) (some false)
  | .d (.raw (.pointer none)), .d (.raw (.pointer none)) => xif (isPtrT P t) (some true)
  | .own _ _, .nils => xif (isSliceT P t) (some false)
  | .nils, .nils => xif (isSliceT P t) (some true)
  | .d (.slice (_ :: _)), .nils => xif (isSliceT P t) (some false)
  | .d (.agg a), .d (.agg b) => xbind (keyK P t) fun
    | .row ks => xif (fitsL ks a) (xif (fitsL ks b) (some (xleqL a b)))
    | _ => none
  | _, _ => none
def xBin (P : Program) (V : Env) (op : BinOp) (t : TypeId) (lit : Bool) (x y : A) : Option A := match x, y with
  | .d (.int k a), .d (.int k' b) => match op with
    | .shl => xif (decide (0 ≤ b)) (some (.d (.int k (k.wrap (a * 2 ^ (min b.toNat k.bits))))))
    | .shr => xif (decide (0 ≤ b)) (some (.d (.int k (a.fdiv (2 ^ (min b.toNat k.bits))))))
    | _ => xif (sameK k k') (xArith op k a b)
  | .d (.str a), .d (.str b) => match op with
    | .add => xif (Nat.ble (a.size + b.size) 9223372036854775807) (some (.d (.str (strAdd a b))))
    | .eql => some (.d (.bool (strEq a b)))
    | .neq => some (.d (.bool (!strEq a b)))
    | .lss => some (.d (.bool (Op.bytesLess a.toList b.toList)))
    | _ => none
  | x, y => match op with
    | .eql => xbind (xEq P V t lit x y) fun b => some (.d (.bool b))
    | .neq => xbind (xEq P V t lit x y) fun b => some (.d (.bool !b))
    | _ => none
theorem xEq_sound {t : TypeId} {lit : Bool} {x x' y y' : A} {b : Bool} (h : xEq P V t lit x y = some b) (rx : RS L U x x') (ry : RS L U y y') :
    ∀ K : A → Prop, (K (.d (.bool b)) → aBin P V .eql t lit x' y' K) ∧ (K (.d (.bool !b)) → aBin P V .neq t lit x' y' K) := by
  intro K
  unfold xEq at h
  split at h
  · cases rx; cases ry
    obtain ⟨h1, h⟩ := xif_some h; cases h
    exact ⟨fun hK => by rw [aBin_eqBool]; exact ⟨h1, hK⟩, fun hK => by rw [aBin_neBool]; exact ⟨h1, hK⟩⟩
  · cases rx; cases ry
    obtain ⟨h1, h⟩ := xif_some h
    split at h
    · rename_i a b e1 e2
      obtain ⟨h2, h⟩ := xif_some h
      obtain ⟨h3, h⟩ := xif_some h
      cases h
      rw [beq_eq' h2] at e1
      rw [beq_eq' h3] at e2
      exact ⟨fun hK => by rw [aBin_eqSent]; exact ⟨⟨h1, e1, e2⟩, hK⟩, fun hK => by rw [aBin_neSent]; exact ⟨⟨h1, e1, e2⟩, hK⟩⟩
    · cases h
  · cases rx; cases ry
    obtain ⟨h1, h⟩ := xif_some h; cases h
    exact ⟨fun hK => by rw [aBin_eqSentNil]; exact ⟨h1, hK⟩, fun hK => by rw [aBin_neSentNil]; exact ⟨h1, hK⟩⟩
  · cases rx; cases ry
    obtain ⟨h1, h⟩ := xif_some h; cases h
    exact ⟨fun hK => by rw [aBin_eqNilSent]; exact ⟨h1, hK⟩, fun hK => by rw [aBin_neNilSent]; exact ⟨h1, hK⟩⟩
  · cases rx; cases ry
    obtain ⟨h1, h⟩ := xif_some h
    obtain ⟨h2, h⟩ := xif_some h; cases h
    exact ⟨fun hK => by rw [aBin_eqNilNil]; exact ⟨⟨h1, h2⟩, hK⟩, fun hK => by rw [aBin_neNilNil]; exact ⟨⟨h1, h2⟩, hK⟩⟩
  · cases rx; cases ry
    obtain ⟨h1, h⟩ := xif_some h; cases h
    exact ⟨fun hK => by rw [aBin_eqRefNil]; exact ⟨h1, hK⟩, fun hK => by rw [aBin_neRefNil]; exact ⟨h1, hK⟩⟩
  · cases rx; cases ry
    obtain ⟨h1, h⟩ := xif_some h; cases h
    exact ⟨fun hK => by rw [aBin_eqImmNil]; exact ⟨h1, hK⟩, fun hK => by rw [aBin_neImmNil]; exact ⟨h1, hK⟩⟩
  · cases rx; cases ry
    obtain ⟨h1, h⟩ := xif_some h; cases h
    exact ⟨fun hK => by rw [aBin_eqErefNil]; exact ⟨h1, hK⟩, fun hK => by rw [aBin_neErefNil]; exact ⟨h1, hK⟩⟩
  · cases rx; cases ry
    obtain ⟨h1, h⟩ := xif_some h; cases h
    exact ⟨fun hK => by rw [aBin_eqNilPtr]; exact ⟨h1, hK⟩, fun hK => by rw [aBin_neNilPtr]; exact ⟨h1, hK⟩⟩
  · cases rx; cases ry
    obtain ⟨h1, h⟩ := xif_some h; cases h
    exact ⟨fun hK => by rw [aBin_eqOwnNil]; exact ⟨h1, hK⟩, fun hK => by rw [aBin_neOwnNil]; exact ⟨h1, hK⟩⟩
  · cases rx; cases ry
    obtain ⟨h1, h⟩ := xif_some h; cases h
    exact ⟨fun hK => by rw [aBin_eqNilsNil]; exact ⟨h1, hK⟩, fun hK => by rw [aBin_neNilsNil]; exact ⟨h1, hK⟩⟩
  · cases rx; cases ry
    obtain ⟨h1, h⟩ := xif_some h; cases h
    exact ⟨fun hK => by rw [aBin_eqSliceNil]; exact ⟨h1, hK⟩, fun hK => by rw [aBin_neSliceNil]; exact ⟨h1, hK⟩⟩
  · cases rx; cases ry
    obtain ⟨f, h1, h⟩ := xbind_some h
    split at h
    · obtain ⟨h2, h⟩ := xif_some h
      obtain ⟨h3, h⟩ := xif_some h
      cases h
      rw [xleqL_eq]
      refine ⟨fun hK => ?_, fun hK => ?_⟩
      · rw [aBin_eqAgg, h1]; exact ⟨⟨h2, h3⟩, hK⟩
      · rw [aBin_neAgg, h1]; exact ⟨⟨h2, h3⟩, hK⟩
    · cases h
  · cases h
theorem xBin_sound {op : BinOp} {t : TypeId} {lit : Bool} {x x' y y' z : A} (h : xBin P V op t lit x y = some z) (rx : RS L U x x') (ry : RS L U y y') : RS L U z z ∧ ∀ K : A → Prop, K z → aBin P V op t lit x' y' K := by
  unfold xBin at h
  split at h
  · rename_i k a k' b
    cases rx; cases ry
    split at h
    · obtain ⟨h1, h⟩ := xif_some h; cases h
      exact ⟨.d _, fun K hK => by rw [aBin_shl]; exact ⟨of_decide_eq_true h1, hK⟩⟩
    · obtain ⟨h1, h⟩ := xif_some h; cases h
      exact ⟨.d _, fun K hK => by rw [aBin_shr]; exact ⟨of_decide_eq_true h1, hK⟩⟩
    · rename_i n1 n2
      obtain ⟨h1, h2⟩ := xif_some h
      clear h
      have e : k = k' := of_decide_eq_true h1
      subst e
      obtain ⟨h3, h4⟩ := xArith_sound (L := L) (U := U) h2
      refine ⟨h3, fun K hK => ?_⟩
      cases op <;> first | exact (n1 rfl).elim | exact (n2 rfl).elim | exact ⟨rfl, h4 K hK⟩
  · cases rx; cases ry
    split at h
    · obtain ⟨h1, h⟩ := xif_some h; cases h
      exact ⟨.d _, fun K hK => by rw [aBin_sadd]; exact ⟨ble_le h1, by rw [← strAdd_eq]; exact hK⟩⟩
    · cases h; exact ⟨.d _, fun K hK => by rw [aBin_seql, ← strEq_eq]; exact hK⟩
    · cases h; exact ⟨.d _, fun K hK => by rw [aBin_sneq, ← strEq_eq]; exact hK⟩
    · cases h; exact ⟨.d _, fun K hK => by rw [aBin_slss]; exact hK⟩
    · cases h
  · split at h
    · obtain ⟨b, h1, h⟩ := xbind_some h; cases h
      exact ⟨.d _, fun K hK => (xEq_sound h1 rx ry K).1 hK⟩
    · obtain ⟨b, h1, h⟩ := xbind_some h; cases h
      exact ⟨.d _, fun K hK => (xEq_sound h1 rx ry K).2 hK⟩
    · cases h
def xUn (op : UnOp) (x : A) : Option A := match op, x with
  | .neg, .d (.int k n) => some (.d (.int k (k.wrap (0 - n))))
  | .xor, .d (.int k n) => some (.d (.int k (bits .xor k (if k.signed then -1 else k.max) n)))
  | .not, .d (.bool b) => some (.d (.bool (!b)))
  | _, _ => none
theorem xUn_sound {op : UnOp} {x x' y : A} (h : xUn op x = some y) (r : RS L U x x') : RS L U y y ∧ ∀ K : A → Prop, K y → aUn op x' K := by
  unfold xUn at h
  split at h
  · cases r; cases h; exact ⟨.d _, fun K hK => hK⟩
  · cases r; cases h; exact ⟨.d _, fun K hK => hK⟩
  · cases r; cases h; exact ⟨.d _, fun K hK => hK⟩
  · cases h
def xbytes : List D → Option (List UInt8)
  | [] => some []
  | .int .u8 (.ofNat n) :: ds => xif (Nat.blt n 256) (xbind (xbytes ds) fun bs => some (UInt8.ofNat n :: bs))
  | _ => none
theorem xbytes_sound : ∀ {ds : List D} {bs : List UInt8}, xbytes ds = some bs → ds = bs.map byteD
  | [], bs, h => by cases h; rfl
  | d :: ds, bs, h => by
    unfold xbytes at h
    split at h
    · cases h; simp_all
    · rename_i n ds' he
      cases he
      obtain ⟨h1, h⟩ := xif_some h
      obtain ⟨cs, h2, h⟩ := xbind_some h
      cases h
      rw [xbytes_sound h2]
      have := blt_lt h1
      simp [byteD, Nat.mod_eq_of_lt this]
    · cases h
def xConv (P : Program) (s d : TypeId) (S : XH) (x : A) : Option A := xbind (convOf P s d) fun
  | .int k => xbind (xInt x) fun n => some (.d (.int k (k.wrap n)))
  | .str => match x with
    | .d (.str s) => some (.d (.str s))
    | _ => none
  | .toStr => xbind (xsrc S x) fun es => xbind (xbytes es) fun bs => some (.d (.str ⟨⟨bs⟩⟩))
  | .toBytes => match x with
    | .d (.str s) => some (.d (.slice (s.data.toList.map byteD)))
    | _ => none
theorem xConv_sound {s d : TypeId} {x x' y : A} (h : xConv P s d S x = some y) (r : RS L U x x') (hH : HS L U S H) : RS L U y y ∧ ∀ K : A → Prop, K y → aConv P s d x' H K := by
  obtain ⟨c, h1, h⟩ := xbind_some h
  cases c with
  | int k =>
    obtain ⟨n, h2, h⟩ := xbind_some h
    cases h
    obtain ⟨k', rfl⟩ := xInt_sound h2 r
    exact ⟨.d _, fun K hK => by simp only [aConv_eq, h1, hid, onSome]; exact hK⟩
  | str =>
    simp only at h
    split at h
    · cases r; cases h; exact ⟨.d _, fun K hK => by simp only [aConv_eq, h1, hid, onSome]; exact hK⟩
    · cases h
  | toStr =>
    obtain ⟨es, h2, h⟩ := xbind_some h
    obtain ⟨bs, h3, h⟩ := xbind_some h
    cases h
    exact ⟨.d _, fun K hK => by simp only [aConv_eq, h1, hid, onSome]; exact xsrc_sound h2 r hH ⟨bs, xbytes_sound h3, hK⟩⟩
  | toBytes =>
    simp only at h
    split at h
    · cases r; cases h; exact ⟨.d _, fun K hK => by simp only [aConv_eq, h1, hid, onSome]; exact hK⟩
    · cases h
def xMark (S : XH) (x : A) : Option (A × XH) := match x with
  | .own i v => match S.at i with
    | some (.arr _ _ v' ds) => xif (sameV v' v) (some (.own i v, S.set i (some (.frz v' ds))))
    | _ => none
  | _ => none
theorem xMark_sound {x x' y : A} {S' : XH} (h : xMark S x = some (y, S')) (r : RS L U x x') (hH : HS L U S H) {K : A → Heap → Prop} (hK : Behind2 L U y S' K) : aMark x' H K := by
  cases r with
  | own i b k v hi hv =>
    simp only [xMark] at h
    split at h
    · rename_i E sz v' ds ho
      obtain ⟨h1, h⟩ := xif_some h
      cases h
      simp only [aMark, row_arr hH hi hv ho h1]
      obtain ⟨o', h7, h8⟩ := hH.obj i b _ hi ho
      cases h8 with
      | arr hv' =>
        have e := sameV_nat h1
        subst e
        exact ⟨trivial, hK L U _ _ (List.prefix_refl L) (List.prefix_refl U) (.own _ _ _ _ hi hv) (hH.put hi ho (.frz hv))⟩
    · cases h
  | _ => cases h
def xSlD (S : XH) (x : A) : Option (A × XH) := match x with
  | .nils => some (.d (.raw (.pointer none)), S)
  | .own i v => match S.at i with
    | some (.arr _ sz v' ds) => xif (sameV v' v) (xif (some1 ds) (some (.eref i v sz 0 0, S)))
    | _ => none
  | _ => none
theorem xSlD_sound {x x' y : A} {S' : XH} (h : xSlD S x = some (y, S')) (r : RS L U x x') (hH : HS L U S H) {K : A → Heap → Prop} (hK : Behind2 L U y S' K) : aSlD x' H K := by
  cases r with
  | nils => cases h; exact hK L U _ H (List.prefix_refl L) (List.prefix_refl U) (.d _) hH
  | own i b k v hi hv =>
    simp only [xSlD] at h
    split at h
    · rename_i E sz v' ds ho
      obtain ⟨h1, h⟩ := xif_some h
      obtain ⟨h2, h⟩ := xif_some h
      cases h
      simp only [aSlD, row_arr hH hi hv ho h1]
      exact ⟨trivial, some1_ne h2, hK L U _ H (List.prefix_refl L) (List.prefix_refl U) (.eref _ _ _ _ _ _ _ hi hv) hH⟩
    · cases h
  | _ => cases h
def xStrOf (P : Program) (t : TypeId) (S : XH) (x y : A) : Option (A × XH) := match x, y with
  | .d (.raw (.pointer none)), .d (.int _ 0) => some (.d (.str ⟨⟨[]⟩⟩), S)
  | .eref i v sz 0 0, .d (.int .i64 (.ofNat n)) => match S.at i, P.underlying t with
    | some (.arr E _ v' ds), some (.pointer E') => xif (sameV v' v) (xif (Nat.beq sz 1) (xif (Nat.beq E' E) (xif (Nat.beq (P.cellsOf E) 1) (xif (some1 ds) (xif (Nat.beq n ds.length) (xbind (xbytes ds) fun bs => some (.d (.str ⟨⟨bs⟩⟩), S.set i (some (.frz v' ds)))))))))
    | _, _ => none
  | _, _ => none
theorem xStrOf_sound {t : TypeId} {x x' y y' z : A} {S' : XH} (h : xStrOf P t S x y = some (z, S')) (rx : RS L U x x') (ry : RS L U y y') (hH : HS L U S H) {K : A → Heap → Prop} (hK : Behind2 L U z S' K) : aStrOf P t x' y' H K := by
  unfold xStrOf at h
  split at h
  · cases rx; cases ry; cases h
    exact hK L U _ H (List.prefix_refl L) (List.prefix_refl U) (.d _) hH
  · cases ry
    cases rx with
    | eref i b k v _ _ _ hi hv =>
    split at h
    · rename_i E sz' v' ds E' ho hu
      obtain ⟨h1, h⟩ := xif_some h
      obtain ⟨h2, h⟩ := xif_some h
      obtain ⟨h3, h⟩ := xif_some h
      obtain ⟨h4, h⟩ := xif_some h
      obtain ⟨h5, h⟩ := xif_some h
      obtain ⟨h6, h⟩ := xif_some h
      obtain ⟨bs, h7, h⟩ := xbind_some h
      cases h
      have h3 := beq_eq' h3
      subst h3
      simp only [aStrOf, row_arr hH hi hv ho h1]
      obtain ⟨o', h8, h9⟩ := hH.obj _ b _ hi ho
      cases h9 with
      | arr hv' =>
        have e := sameV_nat h1
        subst e
        exact ⟨trivial, beq_eq' h2, hu, beq_eq' h4, some1_ne h5, by rw [beq_eq' h6]; rfl, bs, xbytes_sound h7, hK L U _ _ (List.prefix_refl L) (List.prefix_refl U) (.d _) (hH.put hi ho (.frz hv))⟩
    · cases h
  · cases h
abbrev XF := List (Nat × A)
def fget : XF → Nat → Option A
  | [], _ => none
  | p :: l, i => match Nat.beq p.1 i with
    | true => some p.2
    | false => fget l i
def RF (L : List Nat) (U : List Value) (X : XF) (F : Nat → A) : Prop := ∀ i x, fget X i = some x → RS L U x (F i)
theorem RF.mono {L' : List Nat} {U' : List Value} {X : XF} {F : Nat → A} (h : RF L U X F) (hL : L <+: L') (hU : U <+: U') : RF L' U' X F := fun i x hx => (h i x hx).mono hL hU
theorem RF.put {X : XF} {F : Nat → A} (h : RF L U X F) {i : Nat} {x y : A} (r : RS L U x y) : RF L U ((i, x) :: X) (updF F i y) := by
  intro j z hz
  simp only [fget] at hz
  split at hz
  · rename_i e
    have e := beq_eq' e
    subst e
    cases hz
    simp [updF]; exact r
  · rename_i e
    have : ¬ j = i := fun e' => by subst e'; rw [Nat.beq_refl] at e; cases e
    simp only [updF, if_neg this]; exact h j z hz
theorem constA_rs (v : Value) : RS L U (constA v) (constA v) := by
  unfold constA
  split <;> first | exact .d _ | exact .nils | exact .undef
def xev (V : Env) (N : Nat) (X : XF) : Operand → Option A
  | .tmp t => match Nat.blt t N with
    | true => fget X t
    | false => none
  | .const v => some (constA v)
  | .global g => xbind (V.G g) fun x => some (.imm [x])
  | .func f => some (.func f [])
theorem xev_sound {X : XF} {F : Nat → A} {o : Operand} {x : A} (h : xev V N X o = some x) (hF : RF L U X F) : RS L U x (ev V N F o) := by
  cases o with
  | tmp t =>
    simp only [xev] at h
    split at h
    · rename_i e; simp only [ev, if_pos (blt_lt e)]; exact hF t x h
    · cases h
  | const v => cases h; exact constA_rs v
  | global g => obtain ⟨y, h1, h⟩ := xbind_some h; cases h; simp only [ev, h1]; exact .imm _
  | func f => cases h; exact .funcL .nil
def xevs (V : Env) (N : Nat) (X : XF) : List Operand → Option (List A)
  | [] => some []
  | o :: os => xbind (xev V N X o) fun x => xbind (xevs V N X os) fun xs => some (x :: xs)
theorem xevs_sound {X : XF} {F : Nat → A} (hF : RF L U X F) : ∀ {os : List Operand} {xs : List A}, xevs V N X os = some xs → RSL L U xs (os.map (ev V N F))
  | [], xs, h => by cases h; exact .nil
  | o :: os, xs, h => by
    obtain ⟨x, h1, h⟩ := xbind_some h
    obtain ⟨ys, h2, h⟩ := xbind_some h
    cases h
    exact .cons (xev_sound h1 hF) (xevs_sound hF h2)
def xevp (V : Env) (N : Nat) (X : XF) : List (Nat × Operand) → Option (List (Nat × A))
  | [] => some []
  | o :: os => xbind (xev V N X o.2) fun x => xbind (xevp V N X os) fun xs => some ((o.1, x) :: xs)
theorem xevp_sound {X : XF} {F : Nat → A} (hF : RF L U X F) : ∀ {os : List (Nat × Operand)} {xs : List (Nat × A)}, xevp V N X os = some xs → RSP L U xs (os.map fun p => (p.1, ev V N F p.2))
  | [], xs, h => by cases h; exact .nil
  | o :: os, xs, h => by
    obtain ⟨x, h1, h⟩ := xbind_some h
    obtain ⟨ys, h2, h⟩ := xbind_some h
    cases h
    exact .cons ⟨rfl, xev_sound h1 hF⟩ (xevp_sound hF h2)
def xevo (V : Env) (N : Nat) (X : XF) : Option Operand → Option (Option A)
  | none => some none
  | some o => xbind (xev V N X o) fun x => some (some x)
theorem xevo_sound {X : XF} {F : Nat → A} (hF : RF L U X F) {o : Option Operand} {x : Option A} (h : xevo V N X o = some x) : RSO L U x (o.map (ev V N F)) := by
  cases o with
  | none => cases h; exact .none
  | some o =>
    obtain ⟨y, h1, h⟩ := xbind_some h
    cases h
    exact .some (xev_sound h1 hF)
/-- A string's bytes are put behind a row. -/
def xAppStr (P : Program) (t t' : TypeId) (S : XH) (x y : A) : Option (A × XH) := match P.underlying t', y with
  | some .string, .d (.str s) => xAppend P t S x (.d (.slice (s.data.toList.map byteD)))
  | _, _ => none
theorem xAppStr_sound {t t' : TypeId} {x x' y y' z : A} {S' : XH} (h : xAppStr P t t' S x y = some (z, S')) (rx : RS L U x x') (ry : RS L U y y') (hH : HS L U S H) {K : A → Heap → Prop} (hK : Behind2 L U z S' K) : aAppStr P t t' x' y' H K := by
  unfold xAppStr at h
  split at h
  · rename_i s e2
    cases ry
    unfold aAppStr
    simp only [e2]
    exact xAppend_sound h rx (.d _) hH hK
  · cases h
def xkeq : D → D → Bool
  | .agg xs, .agg ys => xleqL xs ys
  | x, y => xleq x y
theorem xkeq_eq (x y : D) : xkeq x y = keq x y := by
  unfold xkeq keq
  split
  · exact xleqL_eq _ _
  · rename_i h
    split
    · exact (h _ _ rfl rfl).elim
    · exact xleq_eq _ _
def xmget : List (D × D) → D → Option D
  | [], _ => none
  | p :: m, x => match xkeq x p.1 with
    | true => some p.2
    | false => xmget m x
theorem xmget_eq : ∀ (m : List (D × D)) (x : D), xmget m x = mget m x
  | [], _ => rfl
  | p :: m, x => by
    simp only [xmget, mget, xkeq_eq, xmget_eq m x]
    cases keq x p.1 <;> simp
def xmput : List (D × D) → D → D → List (D × D)
  | [], x, y => [(x, y)]
  | p :: m, x, y => match xkeq x p.1 with
    | true => (p.1, y) :: m
    | false => p :: xmput m x y
theorem xmput_eq : ∀ (m : List (D × D)) (x y : D), xmput m x y = mput m x y
  | [], _, _ => rfl
  | p :: m, x, y => by
    simp only [xmput, mput, xkeq_eq, xmput_eq m x y]
    cases keq x p.1 <;> simp
def sameLK : LK → LK → Bool
  | .int k, .int k' => sameK k k'
  | .str, .str => true
  | .bool, .bool => true
  | _, _ => false
theorem sameLK_eq {a b : LK} (h : sameLK a b = true) : a = b := by
  cases a <;> cases b <;> first | rfl | cases h | exact congrArg _ (of_decide_eq_true h)
def sameLKs : List LK → List LK → Bool
  | [], [] => true
  | a :: l, b :: m => sameLK a b && sameLKs l m
  | _, _ => false
theorem sameLKs_eq : ∀ {a b : List LK}, sameLKs a b = true → a = b
  | [], [], _ => rfl
  | [], _ :: _, h => by cases h
  | _ :: _, [], h => by cases h
  | a :: l, b :: m, h => by
    simp only [sameLKs, Bool.and_eq_true] at h
    rw [sameLK_eq h.1, sameLKs_eq h.2]
def sameKS : KS → KS → Bool
  | .one a, .one b => sameLK a b
  | .row a, .row b => sameLKs a b
  | _, _ => false
theorem sameKS_eq {a b : KS} (h : sameKS a b = true) : a = b := by
  cases a <;> cases b <;> first | cases h; done | exact congrArg _ (sameLK_eq h) | exact congrArg _ (sameLKs_eq h)
def xMakeMap (P : Program) (t : TypeId) (S : XH) : Option (A × XH) := xbind (mapOf P t) fun f => xbind (S.new (.map f.1 [])) fun S' => some (.mp S.n, S')
theorem xMakeMap_sound {t : TypeId} {y : A} {S' : XH} (h : xMakeMap P t S = some (y, S')) (hH : HS L U S H) {K : A → Heap → Prop} (hK : Behind2 L U y S' K) : aMakeMap P t H K := by
  obtain ⟨f, h1, h⟩ := xbind_some h
  obtain ⟨S1, h2, h⟩ := xbind_some h
  cases h
  unfold aMakeMap
  rw [h1]
  intro b hb
  refine hK (L ++ [b]) U _ _ (List.prefix_append ..) (List.prefix_refl U) (.mp _ _ ?_) (hH.new hb (.map f.1 []) h2)
  rw [hH.n]; simp
def xLookup (P : Program) (t : TypeId) (S : XH) (x y : A) (ok : Bool) : Option A := xbind (mapOf P t) fun f => match x, y with
  | .mp i, .d k => match S.at i with
    | some (.map s m) => xif (keyFit s k) (xif (sameKS s f.1) (some (gotA ok f.2 (xmget m k))))
    | _ => none
  | _, _ => none
theorem xLookup_sound {t : TypeId} {x x' y y' z : A} {ok : Bool} (h : xLookup P t S x y ok = some z) (rx : RS L U x x') (ry : RS L U y y') (hH : HS L U S H) : RS L U z z ∧ ∀ K : A → Prop, K z → aLookup P t x' y' ok H K := by
  obtain ⟨f, h1, h⟩ := xbind_some h
  unfold aLookup
  rw [h1]
  split at h
  · rename_i i0 k0 _
    cases rx with
    | mp i b hi =>
      cases ry with
      | d k =>
        split at h
        · rename_i s m ho
          obtain ⟨h2, h⟩ := xif_some h
          obtain ⟨h3, h⟩ := xif_some h
          cases h
          obtain ⟨o', h4, h5⟩ := hH.obj i0 b _ hi ho
          cases h5
          rw [xmget_eq]
          refine ⟨?_, fun K hK => ?_⟩
          · cases ok
            · exact .d _
            · exact .tupL (.cons (.d _) (.cons (.d _) .nil))
          · simp only [h4]; exact ⟨h2, sameKS_eq h3, hK⟩
        · cases h
  · cases h
def xMapUpdate (P : Program) (t : TypeId) (S : XH) (x y v : A) : Option XH := xbind (mapOf P t) fun f => match x, y with
  | .mp i, .d k => xbind (xdeep S v) fun p => match p.2.at i with
    | some (.map s m) => xif (keyFit s k) (xif (sameKS s f.1) (some (p.2.set i (some (.map s (xmput m k p.1))))))
    | _ => none
  | _, _ => none
theorem xMapUpdate_sound {t : TypeId} {x x' y y' v v' : A} {S' : XH} (h : xMapUpdate P t S x y v = some S') (rx : RS L U x x') (ry : RS L U y y') (rv : RS L U v v') (hH : HS L U S H) {K : Heap → Prop} (hK : ∀ H', HS L U S' H' → K H') : aMapUpdate P t x' y' v' H K := by
  obtain ⟨f, h1, h⟩ := xbind_some h
  unfold aMapUpdate
  rw [h1]
  split at h
  · rename_i i0 k0 _
    cases rx with
    | mp i b hi =>
      cases ry with
      | d k =>
        obtain ⟨⟨d, S1⟩, h2, h⟩ := xbind_some h
        refine xdeep_sound h2 rv hH fun H1 hH1 => ?_
        split at h
        · rename_i s m ho
          obtain ⟨h3, h⟩ := xif_some h
          obtain ⟨h4, h⟩ := xif_some h
          cases h
          obtain ⟨o', h5, h6⟩ := hH1.obj i0 b _ hi ho
          cases h6
          simp only [h5]
          refine ⟨h3, sameKS_eq h4, hK _ ?_⟩
          rw [xmput_eq]
          exact hH1.put hi ho (.map _ _)
        · cases h
  · cases h
/-- What calls give. -/
abbrev XCall := FuncId → List A → XH → Option (A × XH)
def XCallOk (P : Program) (V : Env) (call : XCall) : Prop :=
  ∀ (f : FuncId) (args : List A) (S : XH) (r : A) (S' : XH), call f args S = some (r, S') → ∀ (L : List Nat) (U : List Value) (args' : List A) (H : Heap) (K : A → Heap → Prop),
    RSL L U args args' → HS L U S H → Behind2 L U r S' K → ACall P V f args' H K
def keepH (S : XH) (x : Option A) : Option (A × XH) := xbind x fun y => some (y, S)
theorem keepH_some {x : Option A} {y : A} {S' : XH} (h : keepH S x = some (y, S')) : x = some y ∧ S' = S := by
  obtain ⟨z, h1, h⟩ := xbind_some h
  cases h
  exact ⟨h1, rfl⟩
def xcallOp (P : Program) (V : Env) (N : Nat) (call : XCall) (X : XF) (S : XH) (c : Call) : Option (A × XH) := match c.callee with
  | .builtin .len => match c.args.toList, c.argTypes.toList with
    | [x], [t] => xbind (xev V N X x) fun x => xif (lenable P t x) (keepH S (xLen S x))
    | _, _ => none
  | .builtin .append => match c.args.toList, c.argTypes.toList with
    | [x, y], [t, t'] => xbind (xev V N X x) fun x => xbind (xev V N X y) fun y => (match Nat.beq t t' with
      | true => xAppend P t S x y
      | false => xAppStr P t t' S x y)
    | _, _ => none
  | .builtin .unsafeSliceData => match c.args.toList with
    | [x] => xbind (xev V N X x) fun x => xSlD S x
    | _ => none
  | .builtin .unsafeString => match c.args.toList, c.argTypes.toList with
    | [x, y], [t, _] => xbind (xev V N X x) fun x => xbind (xev V N X y) fun y => xStrOf P t S x y
    | _, _ => none
  | .value f => xbind (xev V N X f) fun
    | .func g caps => xif (callable P g) (xbind (xevs V N X c.args.toList) fun l => call g (l ++ caps) S)
    | _ => none
  | _ => none
def xop (P : Program) (V : Env) (N : Nat) (call : XCall) (X : XF) (S : XH) (op : Op) : Option (A × XH) := match op with
  | .move x => keepH S (xev V N X x)
  | .assign x => keepH S (xev V N X x)
  | .pick c a b => xbind (xev V N X c) fun
    | .d (.bool true) => keepH S (xev V N X a)
    | .d (.bool false) => keepH S (xev V N X b)
    | _ => none
  | .alloc t => xAlloc P t S
  | .box _ x => xbind (xev V N X x) fun x => xBox S x
  | .build t parts => xbind (xevp V N X parts.toList) fun l => keepH S (xBuild P t l)
  | .buildSlice t len parts => xbind (xevp V N X parts.toList) fun l => xBuildSlice P t len l S
  | .load t x => xbind (xev V N X x) fun x => keepH S (xLoad P t S x)
  | .store t x y => xbind (xev V N X x) fun x => xbind (xev V N X y) fun y => xbind (xStore P t S x y) fun S' => some (.undef, S')
  | .nilCheck x => xbind (xev V N X x) fun
    | .ref b off => some (.ref b off, S)
    | .imm ds => some (.imm ds, S)
    | .eref b v sz i off => some (.eref b v sz i off, S)
    | .func f caps => some (.func f caps, S)
    | _ => none
  | .binOp op t x y _ => xbind (xev V N X x) fun u => xbind (xev V N X y) fun v => keepH S (xBin P V op t (isConst x || isConst y) u v)
  | .unOp op _ x => xbind (xev V N X x) fun u => keepH S (xUn op u)
  | .convert s d x => xbind (xev V N X x) fun u => match sameSl P s d with
    | true => xMark S u
    | false => keepH S (xConv P s d S u)
  | .makeFunc (.func f) first caps => xif (Nat.beq first.size 0) (xbind (xevs V N X caps.toList) fun l => some (.func f l, S))
  | .makeSlice t l c => xbind (xev V N X l) fun l => xbind (xev V N X c) fun c => xMakeSlice P t l c S
  | .slice t x lo hi none => xbind (xev V N X x) fun x => xbind (xevo V N X lo) fun lo => xbind (xevo V N X hi) fun hi => xSlice P t S x lo hi
  | .fieldAddr s x f => xbind (xev V N X x) fun x => keepH S (xField P s f x)
  | .field s x f => xbind (xev V N X x) fun x => keepH S (xFieldOf P s f x)
  | .indexAddr t x i => xbind (xev V N X x) fun x => xbind (xev V N X i) fun i => keepH S (xIndexAddr P t S x i)
  | .index t x i => xbind (xev V N X x) fun x => xbind (xev V N X i) fun i => keepH S (xIndex P t x i)
  | .extract x i => xbind (xev V N X x) fun
    | .tup vs => keepH S vs[i]?
    | _ => none
  | .call c => xcallOp P V N call X S c
  | .makeMap t none => xMakeMap P t S
  | .lookup t x y ok => xbind (xev V N X x) fun x => xbind (xev V N X y) fun y => keepH S (xLookup P t S x y ok)
  | .mapUpdate t x y z => xbind (xev V N X x) fun x => xbind (xev V N X y) fun y => xbind (xev V N X z) fun z => xbind (xMapUpdate P t S x y z) fun S' => some (.undef, S')
  | _ => none
variable {call : XCall} {X : XF} {F : Nat → A}
theorem Behind2.here {y y' : A} {K : A → Heap → Prop} (h : Behind2 L U y S K) (r : RS L U y y') (hH : HS L U S H) : K y' H := h L U y' H (List.prefix_refl L) (List.prefix_refl U) r hH
theorem xcallOp_sound (hc : XCallOk P V call) {c : Call} {y : A} {S' : XH} (h : xcallOp P V N call X S c = some (y, S')) (hF : RF L U X F) (hH : HS L U S H) {K : A → Heap → Prop} (hK : Behind2 L U y S' K) : aCallOp P V N F c H K := by
  unfold xcallOp at h
  unfold aCallOp
  split at h
  · rename_i e
    simp only [e]
    split at h
    · rename_i x t e1 e2
      simp only [e1, e2]
      obtain ⟨u, h1, h⟩ := xbind_some h
      obtain ⟨h2, h⟩ := xif_some h
      obtain ⟨h3, rfl⟩ := keepH_some h
      have r := xev_sound h1 hF
      obtain ⟨h4, h5⟩ := xLen_sound h3 r hH
      exact ⟨by rw [lenable_rs r]; exact h2, h5 _ (hK.here h4 hH)⟩
    · cases h
  · rename_i e
    simp only [e]
    split at h
    · rename_i x y t t' e1 e2
      simp only [e1, e2]
      obtain ⟨u, h2, h⟩ := xbind_some h
      obtain ⟨v, h3, h⟩ := xbind_some h
      split at h
      · rename_i e3
        rw [if_pos (beq_eq' e3)]
        exact xAppend_sound h (xev_sound h2 hF) (xev_sound h3 hF) hH hK
      · rename_i e3
        rw [if_neg (fun e4 => by rw [e4, Nat.beq_refl] at e3; cases e3)]
        exact xAppStr_sound h (xev_sound h2 hF) (xev_sound h3 hF) hH hK
    · cases h
  · rename_i e
    simp only [e]
    split at h
    · rename_i x e1
      simp only [e1]
      obtain ⟨u, h1, h⟩ := xbind_some h
      exact xSlD_sound h (xev_sound h1 hF) hH hK
    · cases h
  · rename_i e
    simp only [e]
    split at h
    · rename_i x y t t' e1 e2
      simp only [e1, e2]
      obtain ⟨u, h1, h⟩ := xbind_some h
      obtain ⟨u2, h2, h⟩ := xbind_some h
      exact xStrOf_sound h (xev_sound h1 hF) (xev_sound h2 hF) hH hK
    · cases h
  · rename_i f e
    simp only [e]
    obtain ⟨u, h1, h⟩ := xbind_some h
    have r := xev_sound h1 hF
    generalize ev V N F f = u' at r
    cases r with
    | func g cs cs' hl hr =>
      simp only at h
      obtain ⟨h2, h⟩ := xif_some h
      obtain ⟨l, h3, h⟩ := xbind_some h
      exact ⟨h2, hc _ _ _ _ _ h L U _ H K ((xevs_sound hF h3).append (.of hl hr)) hH hK⟩
    | _ => cases h
  · cases h
theorem xop_sound (hc : XCallOk P V call) {op : Op} {y : A} {S' : XH} (h : xop P V N call X S op = some (y, S')) (hF : RF L U X F) (hH : HS L U S H) {K : A → Heap → Prop} (hK : Behind2 L U y S' K) : aopO P V N op F H K := by
  unfold xop at h
  split at h
  · obtain ⟨h1, rfl⟩ := keepH_some h
    exact hK.here (xev_sound h1 hF) hH
  · obtain ⟨h1, rfl⟩ := keepH_some h
    exact hK.here (xev_sound h1 hF) hH
  · rename_i c a b
    obtain ⟨u, h1, h⟩ := xbind_some h
    have r := xev_sound h1 hF
    simp only [aopO]
    generalize ev V N F c = u' at r
    cases r with
    | d x =>
      cases x with
      | bool t =>
        cases t with
        | true =>
          obtain ⟨h2, rfl⟩ := keepH_some h
          exact hK.here (xev_sound h2 hF) hH
        | false =>
          obtain ⟨h2, rfl⟩ := keepH_some h
          exact hK.here (xev_sound h2 hF) hH
      | _ => cases h
    | _ => cases h
  · exact xAlloc_sound h hH hK
  · obtain ⟨u, h1, h⟩ := xbind_some h
    exact xBox_sound h (xev_sound h1 hF) hH hK
  · obtain ⟨l, h1, h⟩ := xbind_some h
    obtain ⟨h2, rfl⟩ := keepH_some h
    obtain ⟨y', h3, h4⟩ := xBuild_sound h2 (xevp_sound hF h1)
    exact h4 (fun y => K y H) (hK.here h3 hH)
  · obtain ⟨l, h1, h⟩ := xbind_some h
    exact xBuildSlice_sound h (xevp_sound hF h1) hH hK
  · obtain ⟨u, h1, h⟩ := xbind_some h
    obtain ⟨h2, rfl⟩ := keepH_some h
    obtain ⟨y', h3, h4⟩ := xLoad_sound h2 (xev_sound h1 hF) hH
    exact h4 (fun y => K y H) (hK.here h3 hH)
  · obtain ⟨u, h1, h⟩ := xbind_some h
    obtain ⟨v, h2, h⟩ := xbind_some h
    obtain ⟨S1, h3, h⟩ := xbind_some h
    cases h
    exact xStore_sound h3 (xev_sound h1 hF) (xev_sound h2 hF) hH fun H' hH' => hK.here .undef hH'
  · rename_i x
    obtain ⟨u, h1, h⟩ := xbind_some h
    have r := xev_sound h1 hF
    simp only [aopO]
    generalize ev V N F x = u' at r
    cases r with
    | ref i b off hi => cases h; exact hK.here (.ref _ _ _ hi) hH
    | imm cs => cases h; exact hK.here (.imm _) hH
    | eref i b k v sz j off hi hv => cases h; exact hK.here (.eref _ _ _ _ _ _ _ hi hv) hH
    | func f cs cs' hl hr => cases h; exact hK.here (.func _ _ _ hl hr) hH
    | _ => cases h
  · obtain ⟨u, h1, h⟩ := xbind_some h
    obtain ⟨v, h2, h⟩ := xbind_some h
    obtain ⟨h3, rfl⟩ := keepH_some h
    obtain ⟨h4, h5⟩ := xBin_sound h3 (xev_sound h1 hF) (xev_sound h2 hF)
    exact h5 (fun y => K y H) (hK.here h4 hH)
  · obtain ⟨u, h1, h⟩ := xbind_some h
    obtain ⟨h3, rfl⟩ := keepH_some h
    obtain ⟨h4, h5⟩ := xUn_sound h3 (xev_sound h1 hF)
    exact h5 (fun y => K y H) (hK.here h4 hH)
  · obtain ⟨u, h1, h⟩ := xbind_some h
    simp only [aopO]
    split at h
    · rename_i hs
      simp only [hs]
      exact xMark_sound h (xev_sound h1 hF) hH hK
    · rename_i hs
      simp only [hs]
      obtain ⟨h3, rfl⟩ := keepH_some h
      obtain ⟨h4, h5⟩ := xConv_sound h3 (xev_sound h1 hF) hH
      exact h5 (fun y => K y H) (hK.here h4 hH)
  · obtain ⟨h1, h⟩ := xif_some h
    obtain ⟨l, h2, h⟩ := xbind_some h
    cases h
    exact ⟨beq_eq' h1, hK.here (.funcL (xevs_sound hF h2)) hH⟩
  · obtain ⟨u, h1, h⟩ := xbind_some h
    obtain ⟨v, h2, h⟩ := xbind_some h
    exact xMakeSlice_sound h (xev_sound h1 hF) (xev_sound h2 hF) hH hK
  · obtain ⟨u, h1, h⟩ := xbind_some h
    obtain ⟨v, h2, h⟩ := xbind_some h
    obtain ⟨w, h3, h⟩ := xbind_some h
    exact xSlice_sound h (xev_sound h1 hF) (xevo_sound hF h2) (xevo_sound hF h3) hH hK
  · obtain ⟨u, h1, h⟩ := xbind_some h
    obtain ⟨h2, rfl⟩ := keepH_some h
    obtain ⟨y', h3, h4⟩ := xField_sound h2 (xev_sound h1 hF)
    exact h4 (fun y => K y H) (hK.here h3 hH)
  · obtain ⟨u, h1, h⟩ := xbind_some h
    obtain ⟨h2, rfl⟩ := keepH_some h
    obtain ⟨y', h3, h4⟩ := xFieldOf_sound h2 (xev_sound h1 hF)
    exact h4 (fun y => K y H) (hK.here h3 hH)
  · obtain ⟨u, h1, h⟩ := xbind_some h
    obtain ⟨v, h2, h⟩ := xbind_some h
    obtain ⟨h3, rfl⟩ := keepH_some h
    obtain ⟨y', h4, h5⟩ := xIndexAddr_sound h3 (xev_sound h1 hF) (xev_sound h2 hF) hH
    exact h5 (fun y => K y H) (hK.here h4 hH)
  · obtain ⟨u, h1, h⟩ := xbind_some h
    obtain ⟨v, h2, h⟩ := xbind_some h
    obtain ⟨h3, rfl⟩ := keepH_some h
    obtain ⟨y', h4, h5⟩ := xIndex_sound h3 (xev_sound h1 hF) (xev_sound h2 hF)
    exact h5 (fun y => K y H) (hK.here h4 hH)
  · rename_i x i
    obtain ⟨u, h1, h⟩ := xbind_some h
    have r := xev_sound h1 hF
    simp only [aopO]
    generalize ev V N F x = u' at r
    cases r with
    | tup cs cs' hl hr =>
      obtain ⟨h2, rfl⟩ := keepH_some h
      obtain ⟨y', h3, h4⟩ := (All2.of hl hr).at h2
      simp only [h3]
      exact hK.here h4 hH
    | _ => cases h
  · exact xcallOp_sound hc h hF hH hK
  · exact xMakeMap_sound h hH hK
  · obtain ⟨u, h1, h⟩ := xbind_some h
    obtain ⟨v, h2, h⟩ := xbind_some h
    obtain ⟨h3, rfl⟩ := keepH_some h
    obtain ⟨h4, h5⟩ := xLookup_sound h3 (xev_sound h1 hF) (xev_sound h2 hF) hH
    exact h5 (fun y => K y H) (hK.here h4 hH)
  · obtain ⟨u, h1, h⟩ := xbind_some h
    obtain ⟨v, h2, h⟩ := xbind_some h
    obtain ⟨w, h2', h⟩ := xbind_some h
    obtain ⟨S1, h3, h⟩ := xbind_some h
    cases h
    exact xMapUpdate_sound h3 (xev_sound h1 hF) (xev_sound h2 hF) (xev_sound h2' hF) hH fun H' hH' => hK.here .undef hH'
  · cases h
end
end Go.Aug

/-
  The abstract layer, closed runs, part D: code and calls, reckoned.
-/
namespace Go.Aug
mutual
def deq : D → D → Bool
  | .int k a, .int k' b => sameK k k' && decide (a = b)
  | .bool a, .bool b => a == b
  | .str a, .str b => strEq a b
  | .slice a, .slice b => deqs a b
  | .agg a, .agg b => deqs a b
  | .sent a, .sent b => Nat.beq a b
  | .raw .nilIface, .raw .nilIface => true
  | .raw .nilFunc, .raw .nilFunc => true
  | .raw (.pointer none), .raw (.pointer none) => true
  | _, _ => false
def deqs : List D → List D → Bool
  | [], [] => true
  | a :: as, b :: bs => deq a b && deqs as bs
  | _, _ => false
end
mutual
theorem deq_eq : ∀ {a b : D}, deq a b = true → a = b
  | .int k a, b, h => by
    cases b <;> simp only [deq, Bool.and_eq_true, sameK, decide_eq_true_eq, Bool.false_eq_true] at h
    rw [h.1, h.2]
  | .bool a, b, h => by
    cases b <;> simp only [deq, beq_iff_eq, Bool.false_eq_true] at h
    rw [h]
  | .str a, b, h => by
    cases b <;> simp only [deq, strEq_eq, decide_eq_true_eq, Bool.false_eq_true] at h
    rw [h]
  | .slice a, b, h => by
    cases b <;> simp only [deq, Bool.false_eq_true] at h
    rw [deqs_eq h]
  | .agg a, b, h => by
    cases b <;> simp only [deq, Bool.false_eq_true] at h
    rw [deqs_eq h]
  | .sent a, b, h => by
    cases b <;> simp only [deq, Bool.false_eq_true] at h
    rw [beq_eq' h]
  | .raw v, b, h => by
    unfold deq at h
    split at h <;> simp_all
theorem deqs_eq : ∀ {a b : List D}, deqs a b = true → a = b
  | [], b, h => by
    cases b <;> simp only [deqs, Bool.false_eq_true] at h
    rfl
  | x :: xs, b, h => by
    cases b <;> simp only [deqs, Bool.and_eq_true, Bool.false_eq_true] at h
    rw [deq_eq h.1, deqs_eq h.2]
end
theorem sameV_eq {v v' : Value} (h : sameV v v' = true) : v = v' := by
  unfold sameV at h
  split at h
  · rw [beq_eq' h]
  · cases h
def aeq1 : A → A → Bool
  | .undef, .undef => true
  | .d a, .d b => deq a b
  | .nils, .nils => true
  | .ref i o, .ref i' o' => Nat.beq i i' && Nat.beq o o'
  | .imm a, .imm b => deqs a b
  | .own i v, .own i' v' => Nat.beq i i' && sameV v v'
  | .eref i v sz j o, .eref i' v' sz' j' o' => Nat.beq i i' && sameV v v' && Nat.beq sz sz' && Nat.beq j j' && Nat.beq o o'
  | .func f [], .func f' [] => Nat.beq f f'
  | .mp i, .mp i' => Nat.beq i i'
  | _, _ => false
theorem aeq1_eq {a b : A} (h : aeq1 a b = true) : a = b := by
  unfold aeq1 at h
  split at h <;> (try simp only [Bool.and_eq_true, Bool.false_eq_true] at h)
  · rfl
  · rw [deq_eq h]
  · rfl
  · rw [beq_eq' h.1, beq_eq' h.2]
  · rw [deqs_eq h]
  · rw [beq_eq' h.1, sameV_eq h.2]
  · obtain ⟨⟨⟨⟨h1, h2⟩, h3⟩, h4⟩, h5⟩ := h
    rw [beq_eq' h1, sameV_eq h2, beq_eq' h3, beq_eq' h4, beq_eq' h5]
  · rw [beq_eq' h]
  · rw [beq_eq' h]
def aeqs : List A → List A → Bool
  | [], [] => true
  | a :: as, b :: bs => aeq1 a b && aeqs as bs
  | _, _ => false
theorem aeqs_eq : ∀ {a b : List A}, aeqs a b = true → a = b
  | [], [], _ => rfl
  | x :: xs, y :: ys, h => by
    simp only [aeqs, Bool.and_eq_true] at h
    rw [aeq1_eq h.1, aeqs_eq h.2]
def aeq : A → A → Bool
  | .agg a, .agg b => aeqs a b
  | .tup a, .tup b => aeqs a b
  | .func f a, .func f' b => Nat.beq f f' && aeqs a b
  | a, b => aeq1 a b
theorem aeq_eq {a b : A} (h : aeq a b = true) : a = b := by
  unfold aeq at h
  split at h
  · rw [aeqs_eq h]
  · rw [aeqs_eq h]
  · simp only [Bool.and_eq_true] at h
    rw [beq_eq' h.1, aeqs_eq h.2]
  · exact aeq1_eq h
def oeq : AObj → AObj → Bool
  | .var a, .var b => aeqs a b
  | .arr E sz v ds, .arr E' sz' v' ds' => Nat.beq E E' && Nat.beq sz sz' && sameV v v' && deqs ds ds'
  | .frz v ds, .frz v' ds' => sameV v v' && deqs ds ds'
  | _, _ => false
theorem oeq_eq {a b : AObj} (h : oeq a b = true) : a = b := by
  unfold oeq at h
  split at h <;> (try simp only [Bool.and_eq_true, Bool.false_eq_true] at h)
  · rw [aeqs_eq h]
  · obtain ⟨⟨⟨h1, h2⟩, h3⟩, h4⟩ := h
    rw [beq_eq' h1, beq_eq' h2, sameV_eq h3, deqs_eq h4]
  · rw [sameV_eq h.1, deqs_eq h.2]
def teq : Tr → Tr → Bool
  | .nil, .nil => true
  | .leaf a, .leaf b => oeq a b
  | .node l r, .node l' r' => teq l l' && teq r r'
  | _, _ => false
theorem teq_eq : ∀ {a b : Tr}, teq a b = true → a = b
  | .nil, b, h => by cases b <;> first | rfl | cases h
  | .leaf a, b, h => by
    cases b <;> simp only [teq, Bool.false_eq_true] at h
    rw [oeq_eq h]
  | .node l r, b, h => by
    cases b <;> simp only [teq, Bool.and_eq_true, Bool.false_eq_true] at h
    rw [teq_eq h.1, teq_eq h.2]
def heq' (S S' : XH) : Bool := Nat.beq S.n S'.n && Nat.beq S.u S'.u && teq S.t S'.t && eqL S.f S'.f
theorem heq'_eq {S S' : XH} (h : heq' S S' = true) : S = S' := by
  simp only [heq', Bool.and_eq_true] at h
  cases S; cases S'
  simp only at h
  rw [beq_eq' h.1.1.1, beq_eq' h.1.1.2, teq_eq h.1.2, eqL_eq h.2]
/-- Whatever the first frame holds the second holds, too. -/
def feq (X' : XF) : XF → Bool
  | [] => true
  | p :: l => (match fget X' p.1 with
    | some y => aeq p.2 y
    | none => false) && feq X' l
theorem feq_get {X' : XF} : ∀ {X : XF}, feq X' X = true → ∀ {i : Nat} {x : A}, fget X i = some x → fget X' i = some x
  | [], _, i, x, hx => by cases hx
  | p :: l, h, i, x, hx => by
    simp only [feq, Bool.and_eq_true] at h
    simp only [fget] at hx
    split at hx
    · rename_i e
      have e := beq_eq' e
      subst e
      cases hx
      have h1 := h.1
      split at h1
      · rename_i y hy; rw [hy, aeq_eq h1]
      · cases h1
    · exact feq_get h.2 hx
section
variable {P : Program} {V : Env} {N : Nat} {L : List Nat} {U : List Value} {call : XCall}
def fput (X : XF) (d : Option Nat) (x : A) : XF := match d with
  | none => X
  | some s => (s, x) :: X
theorem RF.fput {X : XF} {F : Nat → A} (h : RF L U X F) (d : Option Nat) {x y : A} (r : RS L U x y) : RF L U (fput X d x) (putF F d y) := by
  cases d with
  | none => exact h
  | some s => exact h.put r
def xguard (N : Nat) (X : XF) (o : SOper) : Option Bool := match o.gd with
  | none => some true
  | some (some d, want) => match Nat.blt d N with
    | true => match fget X d with
      | some (.d (.bool b)) => some (b == want)
      | some (.tup []) => some false
      | _ => none
    | false => none
  | some (none, _) => none
theorem xguard_sound {X : XF} {F : Nat → A} {o : SOper} {g : Bool} (h : xguard N X o = some g) (hF : RF L U X F) {yes no : Prop} (hy : g = true → yes) (hn : g = false → no) : sguard N F o yes no := by
  unfold xguard at h
  unfold sguard
  split at h
  · rename_i e; cases h; simp only [e]; exact hy rfl
  · rename_i d want e
    simp only [e]
    split at h
    · rename_i hd
      rw [if_pos (blt_lt hd)]
      split at h
      · rename_i b hb
        have r := hF d _ hb
        generalize F d = z at r
        cases r
        cases h
        cases want <;> cases b <;> simp only [gif_true, gif_false] <;> first | exact hy rfl | exact hn rfl
      · rename_i hb
        have r := hF d _ hb
        generalize F d = z at r
        cases r with
        | tup _ cs' hl hr =>
          have : cs' = [] := List.length_eq_zero_iff.1 hl.symm
          subst this
          cases h
          exact hn rfl
      · cases h
    · cases h
  · cases h
/-- What is behind a stretch. -/
def BehindF (L : List Nat) (U : List Value) (X : XF) (S : XH) (K : (Nat → A) → Heap → Prop) : Prop :=
  ∀ L' U' F' H', L <+: L' → U <+: U' → RF L' U' X F' → HS L' U' S H' → K F' H'
theorem BehindF.mono {L' : List Nat} {U' : List Value} {X : XF} {S : XH} {K : (Nat → A) → Heap → Prop} (h : BehindF L U X S K) (hL : L <+: L') (hU : U <+: U') : BehindF L' U' X S K :=
  fun L2 U2 F' H' h1 h2 h3 h4 => h L2 U2 F' H' (hL.trans h1) (hU.trans h2) h3 h4
def xops (P : Program) (V : Env) (N : Nat) (call : XCall) : List SOper → XF → XH → Option (XF × XH)
  | [], X, S => some (X, S)
  | o :: rest, X, S => match xguard N X o with
    | some true => xbind (xop P V N call X S o.op) fun p => xops P V N call rest (fput X o.dst p.1) p.2
    | some false => xops P V N call rest (fput X o.dst (.tup [])) S
    | none => none
theorem xops_sound (hc : XCallOk P V call) : ∀ {l : List SOper} {X X' : XF} {S S' : XH}, xops P V N call l X S = some (X', S') → ∀ {L U F H} {K : (Nat → A) → Heap → Prop}, RF L U X F → HS L U S H → BehindF L U X' S' K → sops P V N l F H K
  | [], X, X', S, S', h, L, U, F, H, K, hF, hH, hK => by
    cases h
    exact hK L U F H (List.prefix_refl L) (List.prefix_refl U) hF hH
  | o :: rest, X, X', S, S', h, L, U, F, H, K, hF, hH, hK => by
    simp only [xops] at h
    simp only [sops]
    split at h
    · rename_i hg
      obtain ⟨⟨y, S1⟩, h1, h⟩ := xbind_some h
      refine xguard_sound hg hF (fun _ => ?_) (fun e => by cases e)
      refine xop_sound hc h1 hF hH ?_
      intro L' U' y' H' hL hU r hH'
      exact xops_sound hc h ((hF.mono hL hU).fput _ r) hH' (hK.mono hL hU)
    · rename_i hg
      refine xguard_sound hg hF (fun e => by cases e) (fun _ => ?_)
      exact xops_sound hc h (hF.fput _ (.tupL .nil)) hH hK
    · cases h
def noCall : XCall := fun _ _ _ => none
theorem noCall_ok : XCallOk P V noCall := fun _ _ _ _ _ h => by cases h
def xagain (P : Program) (V : Env) (N : Nat) (X : XF) (S : XH) : List SOper → Bool
  | [] => true
  | o :: js => (match o.dst with
    | some d => (match fget X d with
      | some z => (match xguard N X o with
        | some true => (match xop P V N noCall X S o.op with
          | some p => aeq p.1 z
          | none => false)
        | some false => aeq z (.tup [])
        | none => false)
      | none => false)
    | none => false) && xagain P V N X S js
theorem xagain_sound {X : XF} {S : XH} {F : Nat → A} {H : Heap} (hF : RF L U X F) (hH : HS L U S H) : ∀ {l : List SOper}, xagain P V N X S l = true → sagain P V N F H l
  | [], _ => trivial
  | o :: js, h => by
    simp only [xagain, Bool.and_eq_true] at h
    obtain ⟨h1, h2⟩ := h
    refine ⟨?_, xagain_sound hF hH h2⟩
    split at h1
    · rename_i d hd
      rw [hd]
      split at h1
      · rename_i z hz
        have rz := hF d z hz
        split at h1
        · rename_i hg
          refine xguard_sound hg hF (fun _ => ?_) (fun e => by cases e)
          split at h1
          · rename_i p hp
            have e := aeq_eq h1
            obtain ⟨y, S1⟩ := p
            simp only at e
            subst e
            refine xop_sound noCall_ok hp hF hH ?_
            intro L' U' y' H' hL hU r _
            exact r.fn (rz.mono hL hU)
          · cases h1
        · rename_i hg
          refine xguard_sound hg hF (fun e => by cases e) (fun _ => ?_)
          have e := aeq_eq h1
          subst e
          generalize F d = w at rz
          cases rz with
          | tup _ cs' hl hr =>
            have : cs' = [] := List.length_eq_zero_iff.1 hl.symm
            rw [this]
        · cases h1
      · cases h1
    · cases h1
mutual
def ren (f : Nat → Nat) : A → A
  | .ref i o => .ref (f i) o
  | .own i v => .own (f i) v
  | .eref i v sz j o => .eref (f i) v sz j o
  | .mp i => .mp (f i)
  | .agg cs => .agg (rens f cs)
  | .tup cs => .tup (rens f cs)
  | .func g cs => .func g (rens f cs)
  | .undef => .undef
  | .d x => .d x
  | .nils => .nils
  | .imm cs => .imm cs
def rens (f : Nat → Nat) : List A → List A
  | [] => []
  | x :: l => ren f x :: rens f l
end
def renO (f : Nat → Nat) : AObj → AObj
  | .var cs => .var (rens f cs)
  | .arr E sz v ds => .arr E sz v ds
  | .frz v ds => .frz v ds
  | .map s m => .map s m
section
variable {L1 L2 : List Nat} {U2 : List Value} {f : Nat → Nat}
mutual
theorem ren_rs (h1 : ∀ i b, L2[f i]? = some b → L1[i]? = some b) : ∀ {x w : A}, RS L2 U2 (ren f x) w → RS L1 U2 x w
  | .undef, w, h => by simp only [ren] at h; cases h; exact .undef
  | .d x, w, h => by simp only [ren] at h; cases h; exact .d x
  | .nils, w, h => by simp only [ren] at h; cases h; exact .nils
  | .imm cs, w, h => by simp only [ren] at h; cases h; exact .imm cs
  | .ref i o, w, h => by simp only [ren] at h; cases h with | ref _ b _ hb => exact .ref i b o (h1 i b hb)
  | .own i v, w, h => by simp only [ren] at h; cases h with | own _ b k u hb hv => exact .own i b k u (h1 i b hb) hv
  | .eref i v sz j o, w, h => by simp only [ren] at h; cases h with | eref _ b k u _ _ _ hb hv => exact .eref i b k u sz j o (h1 i b hb) hv
  | .mp i, w, h => by simp only [ren] at h; cases h with | mp _ b hb => exact .mp i b (h1 i b hb)
  | .agg cs, w, h => by simp only [ren] at h; cases h with | agg _ cs' hl hr => exact RS.aggL (rens_rs h1 (All2.of hl hr))
  | .tup cs, w, h => by simp only [ren] at h; cases h with | tup _ cs' hl hr => exact RS.tupL (rens_rs h1 (All2.of hl hr))
  | .func g cs, w, h => by simp only [ren] at h; cases h with | func _ _ cs' hl hr => exact RS.funcL (rens_rs h1 (All2.of hl hr))
theorem rens_rs (h1 : ∀ i b, L2[f i]? = some b → L1[i]? = some b) : ∀ {x w : List A}, RSL L2 U2 (rens f x) w → RSL L1 U2 x w
  | [], w, h => by simp only [rens] at h; cases h; exact .nil
  | x :: l, w, h => by simp only [rens] at h; cases h with | cons ha ht => exact .cons (ren_rs h1 ha) (rens_rs h1 ht)
end
theorem renO_ro (h1 : ∀ i b, L2[f i]? = some b → L1[i]? = some b) {x o : AObj} (h : RO L2 U2 (renO f x) o) : RO L1 U2 x o := by
  cases x with
  | var cs => simp only [renO] at h; cases h with | var hh => exact .var (rens_rs h1 hh)
  | arr E sz v ds => simp only [renO] at h; cases h with | arr hv => exact .arr hv
  | frz v ds => simp only [renO] at h; cases h with | frz hv => exact .frz hv
  | map s m => simp only [renO] at h; cases h; exact .map s m
end
/-- A block that was made last, or first, is made first, or last. -/
def rot1 (n0 n1 i : Nat) : Nat := match Nat.ble n0 i && Nat.blt i n1 with
  | true => match Nat.beq (i + 1) n1 with
    | true => n0
    | false => i + 1
  | false => i
def rot2 (n0 n1 i : Nat) : Nat := match Nat.ble n0 i && Nat.blt i n1 with
  | true => match Nat.beq i n0 with
    | true => n1 - 1
    | false => i - 1
  | false => i
structure Turned (f : Nat → Nat) (n0 n1 : Nat) : Prop where
  old : ∀ i, i < n0 → f i = i
  lt : ∀ i, i < n1 → f i < n1
  ge : ∀ i, n1 ≤ i → f i = i
  inj : ∀ i j, f i = f j → i = j
theorem rot1_cases (n0 n1 i : Nat) : (n0 ≤ i ∧ i < n1 ∧ i + 1 = n1 ∧ rot1 n0 n1 i = n0) ∨ (n0 ≤ i ∧ i + 1 < n1 ∧ rot1 n0 n1 i = i + 1) ∨ ((i < n0 ∨ n1 ≤ i) ∧ rot1 n0 n1 i = i) := by
  unfold rot1
  split
  · rename_i h
    simp only [Bool.and_eq_true] at h
    have h1 := ble_le h.1
    have h2 := blt_lt h.2
    split
    · rename_i h3; exact .inl ⟨h1, h2, beq_eq' h3, rfl⟩
    · rename_i h3
      refine .inr (.inl ⟨h1, ?_, rfl⟩)
      have : i + 1 ≠ n1 := fun e => by rw [e, Nat.beq_refl] at h3; cases h3
      omega
  · rename_i h
    refine .inr (.inr ⟨?_, rfl⟩)
    by_cases h1 : n0 ≤ i
    · by_cases h2 : i < n1
      · exfalso
        have e1 : Nat.ble n0 i = true := Nat.ble_eq_true_of_le h1
        have e2 : Nat.blt i n1 = true := Nat.ble_eq_true_of_le h2
        rw [e1, e2] at h; cases h
      · exact .inr (by omega)
    · exact .inl (by omega)
theorem rot1_turned (n0 n1 : Nat) : Turned (rot1 n0 n1) n0 n1 where
  old := fun i hi => by rcases rot1_cases n0 n1 i with h | h | h <;> omega
  lt := fun i hi => by rcases rot1_cases n0 n1 i with h | h | h <;> omega
  ge := fun i hi => by rcases rot1_cases n0 n1 i with h | h | h <;> omega
  inj := fun i j h => by rcases rot1_cases n0 n1 i with h1 | h1 | h1 <;> rcases rot1_cases n0 n1 j with h2 | h2 | h2 <;> omega
theorem rot2_cases (n0 n1 i : Nat) : (i = n0 ∧ i < n1 ∧ rot2 n0 n1 i + 1 = n1) ∨ (n0 < i ∧ i < n1 ∧ rot2 n0 n1 i + 1 = i) ∨ ((i < n0 ∨ n1 ≤ i) ∧ rot2 n0 n1 i = i) := by
  unfold rot2
  split
  · rename_i h
    simp only [Bool.and_eq_true] at h
    have h1 := ble_le h.1
    have h2 := blt_lt h.2
    split
    · rename_i h3; exact .inl ⟨beq_eq' h3, h2, by omega⟩
    · rename_i h3
      have : i ≠ n0 := fun e => by rw [e, Nat.beq_refl] at h3; cases h3
      exact .inr (.inl ⟨by omega, h2, by omega⟩)
  · rename_i h
    refine .inr (.inr ⟨?_, rfl⟩)
    by_cases h1 : n0 ≤ i
    · by_cases h2 : i < n1
      · exfalso
        have e1 : Nat.ble n0 i = true := Nat.ble_eq_true_of_le h1
        have e2 : Nat.blt i n1 = true := Nat.ble_eq_true_of_le h2
        rw [e1, e2] at h; cases h
      · exact .inr (by omega)
    · exact .inl (by omega)
theorem rot2_turned (n0 n1 : Nat) : Turned (rot2 n0 n1) n0 n1 where
  old := fun i hi => by rcases rot2_cases n0 n1 i with h | h | h <;> omega
  lt := fun i hi => by rcases rot2_cases n0 n1 i with h | h | h <;> omega
  ge := fun i hi => by rcases rot2_cases n0 n1 i with h | h | h <;> omega
  inj := fun i j h => by rcases rot2_cases n0 n1 i with h1 | h1 | h1 <;> rcases rot2_cases n0 n1 j with h2 | h2 | h2 <;> omega
def feqR (f : Nat → Nat) (X' : XF) : XF → Bool
  | [] => true
  | p :: l => (match fget X' p.1 with
    | some y => aeq (ren f p.2) y
    | none => false) && feqR f X' l
theorem feqR_get {f : Nat → Nat} {X' : XF} : ∀ {X : XF}, feqR f X' X = true → ∀ {i : Nat} {x : A}, fget X i = some x → fget X' i = some (ren f x)
  | [], _, i, x, hx => by cases hx
  | p :: l, h, i, x, hx => by
    simp only [feqR, Bool.and_eq_true] at h
    simp only [fget] at hx
    split at hx
    · rename_i e
      have e := beq_eq' e
      subst e
      cases hx
      have h1 := h.1
      split at h1
      · rename_i y hy; rw [hy, aeq_eq h1]
      · cases h1
    · exact feqR_get h.2 hx
/-- The things up to a number. -/
def teqR (f : Nat → Nat) (S S' : XH) : Nat → Bool
  | 0 => true
  | n + 1 => (match S.at n with
    | some o => (match S'.at (f n) with
      | some o' => oeq (renO f o) o'
      | none => false)
    | none => true) && teqR f S S' n
theorem teqR_at {f : Nat → Nat} {S S' : XH} : ∀ {n : Nat}, teqR f S S' n = true → ∀ {i : Nat} {o : AObj}, i < n → S.at i = some o → S'.at (f i) = some (renO f o)
  | 0, _, i, o, hi, _ => by omega
  | n + 1, h, i, o, hi, ho => by
    simp only [teqR, Bool.and_eq_true] at h
    by_cases e : i = n
    · subst e
      have h1 := h.1
      rw [ho] at h1
      simp only at h1
      split at h1
      · rename_i o' ho'; rw [ho', oeq_eq h1]
      · cases h1
    · exact teqR_at h.2 (by omega) ho
def isoB (f : Nat → Nat) (r r' : XF × XH) : Bool := Nat.beq r.2.n r'.2.n && Nat.beq r.2.u r'.2.u && eqL r.2.f r'.2.f && feqR f r'.1 r.1 && teqR f r.2 r'.2 r.2.n
theorem isoB_sound {f : Nat → Nat} {n0 : Nat} {r r' : XF × XH} (ht : Turned f n0 r.2.n) (h : isoB f r r' = true) {L L2 : List Nat} {U2 : List Value} {F : Nat → A} {H : Heap} (hn : L.length = n0) (hL : L <+: L2) (rF : RF L2 U2 r'.1 F) (hH : HS L2 U2 r'.2 H) :
    ∃ L1, L <+: L1 ∧ RF L1 U2 r.1 F ∧ HS L1 U2 r.2 H := by
  simp only [isoB, Bool.and_eq_true] at h
  obtain ⟨⟨⟨⟨h1, h2⟩, h3⟩, h4⟩, h5⟩ := h
  have h1 := beq_eq' h1
  have h2 := beq_eq' h2
  have h3 := eqL_eq h3
  have hl2 : L2.length = r.2.n := by rw [h1]; exact hH.n.symm
  have at1 : ∀ i, i < r.2.n → ((List.range r.2.n).map fun i => (L2[f i]?).getD 0)[i]? = L2[f i]? := by
    intro i hi
    have hfi := ht.lt i hi
    rw [List.getElem?_map, List.getElem?_range hi, Option.map_some, List.getElem?_eq_getElem (by omega)]
    rfl
  have key : ∀ i b, L2[f i]? = some b → ((List.range r.2.n).map fun i => (L2[f i]?).getD 0)[i]? = some b := by
    intro i b hb
    by_cases hi : i < r.2.n
    · rw [at1 i hi]; exact hb
    · exfalso
      have := ht.ge i (by omega)
      rw [this] at hb
      have := (List.getElem?_eq_some_iff.1 hb).1
      omega
  have key' : ∀ i b, ((List.range r.2.n).map fun i => (L2[f i]?).getD 0)[i]? = some b → L2[f i]? = some b ∧ i < r.2.n := by
    intro i b hb
    have hi : i < r.2.n := by simpa using (List.getElem?_eq_some_iff.1 hb).1
    rw [at1 i hi] at hb
    exact ⟨hb, hi⟩
  refine ⟨_, ?_, fun i x hx => ren_rs key (rF i _ (feqR_get h4 hx)), ?_⟩
  · have hle : L.length ≤ L2.length := hL.length_le
    have : L = ((List.range r.2.n).map fun i => (L2[f i]?).getD 0).take n0 := by
      apply List.ext_getElem?
      intro i
      by_cases hi : i < n0
      · rw [List.getElem?_take_of_lt hi, at1 i (by omega), ht.old i hi]
        rw [pre_get hL (List.getElem?_eq_getElem (by omega : i < L.length)), List.getElem?_eq_getElem (by omega)]
      · rw [List.getElem?_eq_none (by omega), List.getElem?_eq_none (by simp; omega)]
    rw [this]
    exact List.take_prefix _ _
  · refine ⟨by simp, by rw [h2]; exact hH.u, by simpa [hl2] using hH.le, ?_, ?_, ?_⟩
    · intro i b o hb ho
      obtain ⟨hb2, hi⟩ := key' i b hb
      obtain ⟨o', e1, e2⟩ := hH.obj (f i) b _ hb2 (teqR_at h5 hi ho)
      exact ⟨o', e1, renO_ro key e2⟩
    · intro i j b o o' hb hb' ho ho'
      obtain ⟨hb2, hi⟩ := key' i b hb
      obtain ⟨hb2', hj⟩ := key' j b hb'
      exact ht.inj i j (hH.inj _ _ b _ _ hb2 hb2' (teqR_at h5 hi ho) (teqR_at h5 hj ho'))
    · intro k hk
      exact hH.full k (by rw [← h3]; exact hk)
def xmerge (n0 : Nat) (r r' : XF × XH) : Option (XF × XH) := match feq r'.1 r.1 && heq' r.2 r'.2 with
  | true => some r
  | false => match isoB (rot1 n0 r.2.n) r r' with
    | true => some r
    | false => match isoB (rot2 n0 r.2.n) r r' with
      | true => some r
      | false => none
theorem xmerge_some {n0 : Nat} {r r' x : XF × XH} (h : xmerge n0 r r' = some x) : x = r ∧ ∀ {L L2 : List Nat} {U2 : List Value} {F : Nat → A} {H : Heap}, L.length = n0 → L <+: L2 → RF L2 U2 r'.1 F → HS L2 U2 r'.2 H → ∃ L1, L <+: L1 ∧ RF L1 U2 r.1 F ∧ HS L1 U2 r.2 H := by
  unfold xmerge at h
  split at h
  · rename_i hb
    simp only [Bool.and_eq_true] at hb
    cases h
    refine ⟨rfl, fun hn hL rF hH => ⟨_, hL, fun i x hx => rF i x (feq_get hb.1 hx), by rw [heq'_eq hb.2]; exact hH⟩⟩
  · split at h
    · rename_i hb; cases h; exact ⟨rfl, fun hn hL rF hH => isoB_sound (rot1_turned _ _) hb hn hL rF hH⟩
    · split at h
      · rename_i hb; cases h; exact ⟨rfl, fun hn hL rF hH => isoB_sound (rot2_turned _ _) hb hn hL rF hH⟩
      · cases h
def xplan (P : Program) (V : Env) (N : Nat) (call : XCall) : SPlan → XF → XH → Option (XF × XH)
  | .no, _, _ => none
  | .done, X, S => some (X, S)
  | .fl o rest, X, S => match xguard N X o with
    | some true => xbind (xop P V N call X S o.op) fun p => xplan P V N call rest (fput X o.dst p.1) p.2
    | some false => xplan P V N call rest (fput X o.dst (.tup [])) S
    | none => none
  | .eff o chk rest, X, S => match xguard N X o with
    | some true => xbind (xop P V N call X S o.op) fun p => xif (xagain P V N (fput X o.dst p.1) p.2 chk) (xplan P V N call rest (fput X o.dst p.1) p.2)
    | some false => xplan P V N call rest (fput X o.dst (.tup [])) S
    | none => none
  | .both p q, X, S => xbind (xplan P V N call p X S) fun r => xbind (xplan P V N call q X S) fun r' => xmerge S.n r r'
theorem xplan_sound (hc : XCallOk P V call) : ∀ {l : SPlan} {X X' : XF} {S S' : XH}, xplan P V N call l X S = some (X', S') → ∀ {L U F H} {K : (Nat → A) → Heap → Prop}, RF L U X F → HS L U S H → BehindF L U X' S' K → sdops P V N l F H K
  | .no, _, _, _, _, h, _, _, _, _, _, _, _, _ => by cases h
  | .done, X, X', S, S', h, L, U, F, H, K, hF, hH, hK => by
    cases h
    exact hK L U F H (List.prefix_refl L) (List.prefix_refl U) hF hH
  | .fl o rest, X, X', S, S', h, L, U, F, H, K, hF, hH, hK => by
    simp only [xplan] at h
    simp only [sdops]
    split at h
    · rename_i hg
      obtain ⟨⟨y, S1⟩, h1, h⟩ := xbind_some h
      refine xguard_sound hg hF (fun _ => ?_) (fun e => by cases e)
      refine xop_sound hc h1 hF hH ?_
      intro L' U' y' H' hL hU r hH'
      exact xplan_sound hc h ((hF.mono hL hU).fput _ r) hH' (hK.mono hL hU)
    · rename_i hg
      refine xguard_sound hg hF (fun e => by cases e) (fun _ => ?_)
      exact xplan_sound hc h (hF.fput _ (.tupL .nil)) hH hK
    · cases h
  | .eff o chk rest, X, X', S, S', h, L, U, F, H, K, hF, hH, hK => by
    simp only [xplan] at h
    simp only [sdops]
    split at h
    · rename_i hg
      obtain ⟨⟨y, S1⟩, h1, h⟩ := xbind_some h
      obtain ⟨h2, h⟩ := xif_some h
      refine xguard_sound hg hF (fun _ => ?_) (fun e => by cases e)
      refine xop_sound hc h1 hF hH ?_
      intro L' U' y' H' hL hU r hH'
      have hF' := (hF.mono hL hU).fput o.dst r
      exact ⟨xagain_sound hF' hH' h2, xplan_sound hc h hF' hH' (hK.mono hL hU)⟩
    · rename_i hg
      refine xguard_sound hg hF (fun e => by cases e) (fun _ => ?_)
      exact xplan_sound hc h (hF.fput _ (.tupL .nil)) hH hK
    · cases h
  | .both p q, X, X', S, S', h, L, U, F, H, K, hF, hH, hK => by
    obtain ⟨⟨X1, S1⟩, h1, h⟩ := xbind_some h
    obtain ⟨⟨X2, S2⟩, h2, h⟩ := xbind_some h
    obtain ⟨e, hm⟩ := xmerge_some h
    cases e
    refine ⟨xplan_sound hc h1 hF hH hK, xplan_sound hc h2 hF hH ?_⟩
    intro L' U' F' H' hL hU r hH'
    obtain ⟨L1, hL1, r1, hH1⟩ := hm hH.n.symm hL r hH'
    exact hK L1 U' F' H' hL1 hU r1 hH1
def fkeep (X : XF) : Option (List Nat) → XF
  | none => X
  | some l => l.filterMap fun s => match fget X s with
    | some x => some (s, x)
    | none => none
theorem keepL_get (F : Nat → A) : ∀ (l : List Nat) (i : Nat), i ∈ l → keepL F l i = F i
  | [], _, h => by cases h
  | s :: l, i, h => by
    simp only [keepL, updF]
    by_cases e : i = s
    · rw [if_pos e, e]
    · rw [if_neg e]; exact keepL_get F l i (by rcases List.mem_cons.1 h with h | h; exact (e h).elim; exact h)
theorem fkeep_get {X : XF} : ∀ {l : List Nat} {i : Nat} {x : A}, fget (l.filterMap fun s => match fget X s with | some x => some (s, x) | none => none) i = some x → i ∈ l ∧ fget X i = some x
  | [], _, _, h => by cases h
  | s :: l, i, x, h => by
    simp only [List.filterMap_cons] at h
    cases hs : fget X s with
    | none =>
      simp only [hs] at h
      obtain ⟨h1, h2⟩ := fkeep_get h
      exact ⟨.tail _ h1, h2⟩
    | some y =>
      simp only [hs, fget] at h
      split at h
      · rename_i e
        have e := beq_eq' e
        subst e
        cases h
        exact ⟨.head _, hs⟩
      · obtain ⟨h1, h2⟩ := fkeep_get h
        exact ⟨.tail _ h1, h2⟩
theorem RF.keep {X : XF} {F : Nat → A} (h : RF L U X F) (k : Option (List Nat)) : RF L U (fkeep X k) (keepF F k) := by
  cases k with
  | none => exact h
  | some l =>
    intro i x hx
    obtain ⟨h1, h2⟩ := fkeep_get hx
    simp only [keepF, keepL_get F l i h1]
    exact h i x h2
abbrev XRes := Exit × XF × XH
abbrev XRec := Nat → SCode → XF → XH → Option XRes
def xstep (P : Program) (V : Env) (call : XCall) (rec : XRec) (N : Nat) (c : SCode) (X : XF) (S : XH) : Option XRes := match c with
  | .no => none
  | .skip => some (.normal, X, S)
  | .reg k ops => xbind (xops P V N call ops (fkeep X k) S) fun p => some (.normal, p.1, p.2)
  | .dreg k p => xbind (xplan P V N call p (fkeep X k) S) fun p => some (.normal, p.1, p.2)
  | .seq x y => xbind (rec N x X S) fun r => match r.1 with
    | .normal => rec N y r.2.1 r.2.2
    | _ => some r
  | .cond c x y => xbind (xev V N X c) fun
    | .d (.bool true) => rec N x X S
    | .d (.bool false) => rec N y X S
    | _ => none
  | .block id c => xbind (rec N c X S) fun r => match r.1 with
    | .exit id' => (match Nat.beq id' id with
      | true => some (.normal, r.2.1, r.2.2)
      | false => some r)
    | _ => some r
  | .exit id => some (.exit id, X, S)
  | .ret => some (.ret, X, S)
  | .loop c => xbind (rec N c X S) fun r => match r.1 with
    | .normal => rec N (.loop c) r.2.1 r.2.2
    | _ => some r
def XOk (P : Program) (V : Env) (rec : XRec) : Prop := ∀ N c X S e X' S', rec N c X S = some (e, X', S') → ∀ L U F H (Q : Post), RF L U X F → HS L U S H → BehindF L U X' S' (Q e) → svc P V N c Q F H
def frameOf (X : XF) (F : Nat → A) : List (Nat × A) := X.map fun p => (p.1, F p.1)
theorem frameOf_is (F : Nat → A) : ∀ X : XF, FrameIs F (frameOf X F)
  | [] => trivial
  | p :: l => ⟨rfl, frameOf_is F l⟩
theorem frameOf_get (F : Nat → A) : ∀ {X : XF} {i : Nat} {x : A}, fget X i = some x → mkF (frameOf X F) i = F i
  | p :: l, i, x, h => by
    simp only [fget] at h
    simp only [frameOf, List.map_cons, mkF]
    split at h
    · rename_i e; rw [if_pos (beq_eq' e).symm, beq_eq' e]
    · rename_i e
      have : ¬ i = p.1 := fun e' => by rw [e', Nat.beq_refl] at e; cases e
      rw [if_neg this]; exact frameOf_get F h
theorem frameOf_rf {X : XF} {F : Nat → A} (h : RF L U X F) : RF L U X (mkF (frameOf X F)) := fun i x hx => by
  rw [frameOf_get F hx]; exact h i x hx
structure LoopSt where
  k : Nat
  X : XF
  S : XH
  L : List Nat
  U : List Value
  fl : List (Nat × A)
/-- Reckoning with so much fuel. call: what calls give, by what code gives. -/
def xrun (P : Program) (V : Env) (call : XRec → XCall) (n : Nat) : XRec :=
  Nat.rec (motive := fun _ => XRec) (fun _ _ _ _ => none) (fun _ rec => xstep P V (call rec) rec) n
theorem xrun_ok {call : XRec → XCall} (hcall : ∀ rec, XOk P V rec → XCallOk P V (call rec)) : ∀ n m, m ≤ n → XOk P V (xrun P V call m) := by
  intro n
  induction n with
  | zero =>
    intro m hm
    have : m = 0 := by omega
    subst this
    intro N c X S e X' S' h
    cases h
  | succ n IH =>
    intro m hm
    rcases Nat.lt_or_ge m (n + 1) with hlt | hge
    · exact IH m (by omega)
    have : m = n + 1 := by omega
    subst this
    intro N c X S e X' S' h L U F H Q hF hH hK
    have IHn := IH n (Nat.le_refl n)
    have hc := hcall _ IHn
    have pL := List.prefix_refl L
    have pU := List.prefix_refl U
    change xstep P V (call (xrun P V call n)) (xrun P V call n) N c X S = some (e, X', S') at h
    cases c with
    | no => cases h
    | skip => cases h; exact hK L U F H pL pU hF hH
    | reg k ops =>
      obtain ⟨⟨X1, S1⟩, h1, h⟩ := xbind_some h
      cases h
      exact xops_sound hc h1 (hF.keep k) hH hK
    | dreg k p =>
      obtain ⟨⟨X1, S1⟩, h1, h⟩ := xbind_some h
      cases h
      exact xplan_sound hc h1 (hF.keep k) hH hK
    | seq x y =>
      obtain ⟨⟨e1, X1, S1⟩, h1, h⟩ := xbind_some h
      refine IHn _ _ _ _ _ _ _ h1 L U F H _ hF hH ?_
      intro L' U' F' H' hL hU hF' hH'
      cases e1 with
      | normal => exact IHn _ _ _ _ _ _ _ h L' U' F' H' Q hF' hH' (hK.mono hL hU)
      | _ => cases h; exact hK L' U' F' H' hL hU hF' hH'
    | cond c x y =>
      obtain ⟨u, h1, h⟩ := xbind_some h
      have r := xev_sound h1 hF
      simp only [svc]
      generalize ev V N F c = u' at r
      cases r with
      | d z =>
        cases z with
        | bool b =>
          cases b with
          | true => simp only [gif_true]; exact IHn _ _ _ _ _ _ _ h L U F H Q hF hH hK
          | false => simp only [gif_false]; exact IHn _ _ _ _ _ _ _ h L U F H Q hF hH hK
        | _ => cases h
      | _ => cases h
    | block id c =>
      obtain ⟨⟨e1, X1, S1⟩, h1, h⟩ := xbind_some h
      refine IHn _ _ _ _ _ _ _ h1 L U F H _ hF hH ?_
      intro L' U' F' H' hL hU hF' hH'
      cases e1 with
      | exit id' =>
        simp only at h
        simp only [inBlockQ]
        split at h
        · rename_i eb
          cases h
          rw [if_pos (beq_eq' eb)]; exact hK L' U' F' H' hL hU hF' hH'
        · rename_i eb
          cases h
          have : ¬ id' = id := fun e' => by rw [e', Nat.beq_refl] at eb; cases eb
          rw [if_neg this]; exact hK L' U' F' H' hL hU hF' hH'
      | _ => cases h; exact hK L' U' F' H' hL hU hF' hH'
    | exit id => cases h; exact hK L U F H pL pU hF hH
    | ret => cases h; exact hK L U F H pL pU hF hH
    | loop c =>
      have h0 : xrun P V call (n + 1) N (.loop c) X S = some (e, X', S') := h
      refine svc_loop (X := LoopSt) (fun x => x.fl)
        (fun x H => x.k ≤ n + 1 ∧ RF x.L x.U x.X (mkF x.fl) ∧ HS x.L x.U x.S H ∧ L <+: x.L ∧ U <+: x.U ∧ xrun P V call x.k N (.loop c) x.X x.S = some (e, X', S'))
        (fun x => x.k) ⟨n + 1, X, S, L, U, frameOf X F⟩ H ⟨Nat.le_refl _, frameOf_rf hF, hH, pL, pU, h0⟩ (frameOf_is F X) (.refl H) ?_
      rintro ⟨k, X1, S1, L1, U1, fl⟩ H1 ⟨hk, hF1, hH1, hL1, hU1, hr⟩
      simp only at hk hF1 hH1 hL1 hU1 hr
      cases k with
      | zero => cases hr
      | succ k =>
        change xstep P V (call (xrun P V call k)) (xrun P V call k) N (.loop c) X1 S1 = some (e, X', S') at hr
        obtain ⟨⟨e2, X2, S2⟩, h1, hr⟩ := xbind_some hr
        refine IH k (by omega) _ _ _ _ _ _ _ h1 L1 U1 _ H1 _ hF1 hH1 ?_
        intro L' U' F' H' hL hU hF' hH'
        cases e2 with
        | normal =>
          exact roundQ_next (⟨k, X2, S2, L', U', frameOf X2 F'⟩ : LoopSt) H' ⟨by show k ≤ n + 1; omega, frameOf_rf hF', hH', hL1.trans hL, hU1.trans hU, hr⟩ (by show k < k + 1; omega) (frameOf_is F' X2) (.refl H')
        | _ => cases hr; exact hK L' U' F' H' (hL1.trans hL) (hU1.trans hU) hF' hH'
def xres1 (P : Program) (V : Env) (N : Nat) (X : XF) (S : XH) : ResultVar → Option A
  | .tmp t => xev V N X (.tmp t)
  | .cell a t => xbind (xev V N X (.tmp a)) fun
    | .ref i off => match S.at i with
      | some (.var cs) => xbind (tshape P t) fun s => xld s cs off
      | _ => none
    | _ => none
def xres (P : Program) (V : Env) (N : Nat) (X : XF) (S : XH) : List ResultVar → Option (List A)
  | [] => some []
  | r :: rs => xbind (xres1 P V N X S r) fun x => xbind (xres P V N X S rs) fun xs => some (x :: xs)
theorem xres1_sound {X : XF} {S : XH} {F : Nat → A} {H : Heap} (hF : RF L U X F) (hH : HS L U S H) {r : ResultVar} {x : A} (h : xres1 P V N X S r = some x) : ∃ x', resOf P V N F H r = some x' ∧ RS L U x x' := by
  cases r with
  | tmp t => exact ⟨_, rfl, xev_sound h hF⟩
  | cell a t =>
    obtain ⟨u, h1, h⟩ := xbind_some h
    have r := xev_sound h1 hF
    simp only [resOf]
    generalize ev V N F (.tmp a) = u' at r
    cases r with
    | ref i b off hi =>
      simp only at h
      split at h
      · rename_i cs ho
        obtain ⟨s, hs, h⟩ := xbind_some h
        obtain ⟨cs', h2, h3⟩ := var_at hH hi ho
        simp only [h2, hs]
        obtain ⟨g, n⟩ := s
        cases g with
        | true =>
          obtain ⟨h4, h⟩ := xif_some h
          cases h
          exact ⟨_, if_pos (by rw [← h3.length]; exact ble_le h4), RS.aggN ((h3.drop off).take n)⟩
        | false =>
          obtain ⟨y', h5, h6⟩ := h3.at h
          exact ⟨y', h5, h6⟩
      · cases h
    | _ => cases h
theorem xres_sound {X : XF} {S : XH} {F : Nat → A} {H : Heap} (hF : RF L U X F) (hH : HS L U S H) : ∀ {rs : List ResultVar} {xs : List A}, xres P V N X S rs = some xs → ∃ xs', resAll P V N F H rs = some xs' ∧ RSL L U xs xs'
  | [], xs, h => by cases h; exact ⟨[], rfl, .nil⟩
  | r :: rs, xs, h => by
    obtain ⟨x, h1, h⟩ := xbind_some h
    obtain ⟨ys, h2, h⟩ := xbind_some h
    cases h
    obtain ⟨x', h3, h4⟩ := xres1_sound hF hH h1
    obtain ⟨ys', h5, h6⟩ := xres_sound hF hH h2
    exact ⟨x' :: ys', by simp only [resAll, h3, h5], .cons h4 h6⟩
theorem RS.tupled {xs ys : List A} (h : RSL L U xs ys) : RS L U (tupled xs) (tupled ys) := by
  cases h with
  | nil => exact .tupL .nil
  | cons h t =>
    cases t with
    | nil => exact h
    | cons h2 t => exact .tupL (.cons h (.cons h2 t))
theorem numb_rf : ∀ {xs ys : List A} (_ : RSL L U xs ys) (i : Nat), RF L U (numb i xs) (mkF (numb i ys))
  | _, _, .nil, _ => fun j x h => by cases h
  | _, _, .cons h t, i => fun j x hx => by
    simp only [numb, fget] at hx
    simp only [numb, mkF]
    split at hx
    · rename_i e; cases hx; rw [if_pos (beq_eq' e).symm]; exact h
    · rename_i e
      have : ¬ j = i := fun e' => by rw [e', Nat.beq_refl] at e; cases e
      rw [if_neg this]; exact numb_rf t (i + 1) j x hx
/-- A call: a function in short, or one whose answers are known. -/
def xcallBy (P : Program) (V : Env) (tab : FuncId → Option (Nat × List ResultVar × SCode)) (orc : XRec → XCall) (rec : XRec) : XCall := fun f args S => match tab f with
  | some e => xif (Nat.ble args.length e.1) (xbind (rec e.1 e.2.2 (numb 0 args) S) fun r => match r.1 with
    | .normal => xbind (xres P V e.1 r.2.1 r.2.2 e.2.1) fun l => some (tupled l, r.2.2)
    | .ret => xbind (xres P V e.1 r.2.1 r.2.2 e.2.1) fun l => some (tupled l, r.2.2)
    | _ => none)
  | none => orc rec f args S
theorem xcallBy_ok (hm : P.follows .mixedOrders = true) {tab : FuncId → Option (Nat × List ResultVar × SCode)} {orc : XRec → XCall} (ht : ∀ f e, tab f = some e → FnIs P f e.1 e.2.1 e.2.2) (ho : ∀ rec, XOk P V rec → XCallOk P V (orc rec)) (rec : XRec) (hr : XOk P V rec) : XCallOk P V (xcallBy P V tab orc rec) := by
  intro f args S r S' h L U args' H K ra hH hK
  unfold xcallBy at h
  split at h
  · rename_i e he
    obtain ⟨N, rs, s⟩ := e
    obtain ⟨h1, h⟩ := xif_some h
    obtain ⟨⟨e1, X1, S1⟩, h2, h⟩ := xbind_some h
    have fn := ht f _ he
    simp only at h h1 h2 fn
    refine ACall.by hm fn (by rw [← ra.length]; exact ble_le h1) ?_
    rw [argsF_numb]
    have fin : ∀ (L' : List Nat) (U' : List Value) (F' : Nat → A) (H' : Heap), L <+: L' → U <+: U' → RF L' U' X1 F' → HS L' U' S1 H' → (xbind (xres P V N X1 S1 rs) fun l => some (tupled l, S1)) = some (r, S') → ∃ l, resAll P V N F' H' rs = some l ∧ retW V (tupled l) H' K := by
      intro L' U' F' H' hL hU hF' hH' hx
      obtain ⟨l, h3, hx⟩ := xbind_some hx
      cases hx
      obtain ⟨l', h4, h5⟩ := xres_sound hF' hH' h3
      exact ⟨l', h4, retW_is (hK L' U' _ H' hL hU (RS.tupled h5) hH')⟩
    refine hr _ _ _ _ _ _ _ h2 L U _ H _ (numb_rf ra 0) hH ?_
    intro L' U' F' H' hL hU hF' hH'
    cases e1 with
    | normal =>
      obtain ⟨l, h3, h4⟩ := fin L' U' F' H' hL hU hF' hH' h
      simp only [sret, h3]; exact h4
    | ret =>
      obtain ⟨l, h3, h4⟩ := fin L' U' F' H' hL hU hF' hH' h
      simp only [sret, h3]; exact h4
    | _ => cases h
  · exact ho rec hr f args S r S' h L U args' H K ra hH hK
def xh0 : XH := ⟨0, 0, .nil, []⟩
theorem HS.start (H : Heap) : HS [] [] xh0 H where
  n := rfl
  u := rfl
  le := Nat.zero_le _
  obj := fun i b o hi => by simp at hi
  inj := fun i j b o o' hi => by simp at hi
  full := fun k hk => by cases hk
end
end Go.Aug

/-
  The abstract layer, part V: a row that is appended to, round by round.
-/
namespace Go.Aug
/-- Over the heap G, in H, the value is a row of ours that holds l, or nil. -/
def AccAt (G : Heap) (E : TypeId) (sz : Nat) (l : List D) (a : A) (H : Heap) : Prop :=
  LeH G H ∧ ((l = [] ∧ a = .nils) ∨ ∃ b v, a = .own b v ∧ G b = none ∧ v.ownBlock = some b ∧ H b = some (.arr E sz v l))
theorem AccAt.nils (G : Heap) (E : TypeId) (sz : Nat) : AccAt G E sz [] .nils G := ⟨.refl _, .inl ⟨rfl, rfl⟩⟩
theorem AccAt.own {G H : Heap} {E : TypeId} {sz : Nat} {l : List D} {b : Nat} {v : Value} (hle : LeH G H) (hb : G b = none) (hv : v.ownBlock = some b) (hH : H b = some (.arr E sz v l)) : AccAt G E sz l (.own b v) H :=
  ⟨hle, .inr ⟨b, v, rfl, hb, hv, hH⟩⟩
theorem LeH.free {G H : Heap} (h : LeH G H) {b : Nat} (hb : H b = none) : G b = none := by
  cases hg : G b with
  | none => rfl
  | some o => rw [h b o hg] at hb; cases hb
theorem LeH.up {G H : Heap} {b : Nat} {o : AObj} (h : LeH G H) (hb : H b = none) : LeH G (upd H b o) := leH_upd (h.free hb) h
theorem AccAt.up {G H : Heap} {E : TypeId} {sz : Nat} {l : List D} {a : A} (h : AccAt G E sz l a H) {b : Nat} {o : AObj} (hb : H b = none) : AccAt G E sz l a (upd H b o) := by
  obtain ⟨hle, h⟩ := h
  refine ⟨hle.up hb, ?_⟩
  rcases h with h | ⟨c, v, ha, hc, hv, hH⟩
  · exact .inl h
  · refine .inr ⟨c, v, ha, hc, hv, ?_⟩
    unfold upd
    split
    · rename_i e; subst e; rw [hb] at hH; cases hH
    · exact hH
theorem AccAt.le {G H : Heap} {E : TypeId} {sz : Nat} {l : List D} {a : A} (h : AccAt G E sz l a H) : LeH G H := h.1
theorem appTo_acc {G H : Heap} {E : TypeId} {sz by_ : Nat} {l ns : List D} {a : A} {K : A → Heap → Prop} (h : AccAt G E sz l a H) (hsz : (l.length + ns.length) * by_ ≤ 140737488355328)
    (hK : ∀ a' H', AccAt G E sz (l ++ ns) a' H' → K a' H') : appTo a ns E sz by_ H K := by
  obtain ⟨hle, ⟨rfl, rfl⟩ | ⟨b, v, rfl, hb, hv, hH⟩⟩ := h
  · refine appTo_nils' (by simpa using hsz) ?_ ?_
    · rintro rfl; exact hK _ _ ⟨hle, .inl ⟨rfl, rfl⟩⟩
    · intro _ b v hb hv
      exact hK _ _ (AccAt.own (hle.up hb) (hle.free hb) hv (by simp [upd]))
  · simp only [appTo, hH, true_and]
    refine ⟨hsz, ?_⟩
    intro b' v' hb' hv'
    have hg : G b' = none := by rcases hb' with rfl | hb'; exact hb; exact hle.free hb'
    exact hK _ _ (AccAt.own (leH_upd hg (leH_del hb hle)) hg hv' (by simp [upd]))
/-- The same row, let go. -/
theorem AccAt.deep {G H : Heap} {E : TypeId} {sz : Nat} {l : List D} {a : A} {K : D → Heap → Prop} (h : AccAt G E sz l a H) (hK : ∀ H', LeH G H' → K (.slice l) H') : deepK H a K := by
  obtain ⟨hle, ⟨rfl, rfl⟩ | ⟨b, v, rfl, hb, hv, hH⟩⟩ := h
  · simp only [deepK_nils]; exact hK _ hle
  · simp only [deepK, hH]; exact ⟨trivial, hK _ (leH_upd hb hle)⟩
theorem lenable_acc {P : Program} {t : TypeId} {G H : Heap} {E : TypeId} {sz : Nat} {l : List D} {a : A} (h : AccAt G E sz l a H) (ht : isSliceT P t = true) : lenable P t a = true := by
  obtain ⟨hle, ⟨rfl, rfl⟩ | ⟨b, v, rfl, hb, hv, hH⟩⟩ := h
  · rw [lenable_nils, ht]
  · rw [lenable_own, ht]
@[go_sem] theorem frzM_empty {ms : List Bool} {H : Heap} {K : List A → Heap → Prop} : frzM ms H [] K = K [] H := by
  rcases ms with _ | ⟨m, ms⟩
  · simp only [frzM]
  · cases m <;> simp only [frzM]
theorem upd_upd {H : Heap} {b : Nat} {o o' : AObj} : upd (upd H b o) b o' = upd H b o' := by
  funext k; unfold upd; split <;> rfl
theorem upd_comm {H : Heap} {b c : Nat} {o o' : AObj} (h : b ≠ c) : upd (upd H b o) c o' = upd (upd H c o') b o := by
  funext k; unfold upd; split <;> split <;> simp_all
/-- Another block of the heap below is written. -/
theorem AccAt.set {G H : Heap} {E : TypeId} {sz : Nat} {l : List D} {a : A} (h : AccAt G E sz l a H) {b : Nat} {o o' : AObj} (hb : G b = some o) : AccAt (upd G b o') E sz l a (upd H b o') := by
  obtain ⟨hle, h⟩ := h
  refine ⟨leH_both hle, ?_⟩
  rcases h with h | ⟨c, v, ha, hc, hv, hH⟩
  · exact .inl h
  · have : c ≠ b := by rintro rfl; rw [hb] at hc; cases hc
    exact .inr ⟨c, v, ha, by simp [upd, this, hc], hv, by simp [upd, this, hH]⟩
theorem AccAt.some {G H : Heap} {E : TypeId} {sz : Nat} {l : List D} {a : A} (h : AccAt G E sz l a H) (hl : l ≠ []) : ∃ b v, a = .own b v ∧ G b = none ∧ v.ownBlock = Option.some b ∧ H b = Option.some (.arr E sz v l) := by
  rcases h.2 with ⟨h1, _⟩ | h
  · exact absurd h1 hl
  · exact h
end Go.Aug

/-
  The abstract layer, part X: what is handed back out of a variable. (LiveT has these lines, too: never both in one claim.)
-/
namespace Go.Aug
def resD : Option AObj → Nat → Option (Bool × Nat) → Option A
  | some (.var cs), off, some (true, n) => if off + n ≤ cs.length then some (aggN ((cs.drop off).take n)) else none
  | some (.var cs), off, some (false, _) => cs[off]?
  | _, _, _ => none
def resC : A → Heap → Option (Bool × Nat) → Option A
  | .ref b off, H, s => resD (H b) off s
  | _, _, _ => none
@[go_sem] theorem resOf_cell {P : Program} {V : Env} {N : Nat} {F : Nat → A} {H : Heap} {a : Nat} {t : TypeId} : resOf P V N F H (.cell a t) = resC (ev V N F (.tmp a)) H (tshape P t) := by
  simp only [resOf]
  generalize ev V N F (.tmp a) = x
  cases x with
  | ref b off =>
    simp only [resC]
    generalize H b = o
    cases o with
    | none => rfl
    | some o =>
      cases o with
      | var cs =>
        cases tshape P t with
        | none => rfl
        | some s => obtain ⟨g, n⟩ := s; cases g <;> rfl
      | _ => rfl
  | _ => rfl
@[go_sem] theorem resC_ref {b off : Nat} {H : Heap} {s : Option (Bool × Nat)} : resC (.ref b off) H s = resD (H b) off s := Eq.trans rfl rfl
@[go_sem] theorem resD_agg {cs : List A} {off n : Nat} (h : off + n ≤ cs.length) : resD (some (.var cs)) off (some (true, n)) = some (aggN ((cs.drop off).take n)) := if_pos h
end Go.Aug

/-
  The abstract layer: calls whose world behind is known to be no other below; functions that defer one closure.
-/
namespace Go.Aug
open Go.RowKit
section
variable {P : Program} {V : Env} {N : Nat} {Z : Nat → Prop} {H : Heap} {w w' : World}
/-- What is called with nothing at hand leaves what is at hand. -/
theorem ACall.keep {f : FuncId} {args : List A} {K : A → Prop} (h : ACall P V f args (fun _ => none) (fun r _ => K r)) : ACall P V f args H (fun r H' => K r ∧ H' = H) := by
  intro Z w cv hl hr m
  have no : ∀ b, ¬ Own (fun _ => none) b := fun b ⟨o, ho, _⟩ => by cases ho
  refine (h Z w cv hl hr (m.le fun b o hb => by cases hb)).mono ?_
  rintro e w' ⟨v, r, Z', H', rfl, rr, m', x', k⟩
  have kk : Keeps Z w Z' w' := x'.keeps (fun b hb => (no b hb).elim)
  refine ⟨v, r, Z', H, rfl, rr, ⟨?_, m'.zlt, m'.env, fun b o hb => Nat.lt_of_lt_of_le (m.lt b o hb) x'.size⟩, ?_, k, rfl⟩
  · intro b o hb
    exact (m.heap b o hb).keep kk fun hw => ⟨x'.zold b (m.own b ⟨o, hb, hw⟩) (no b), x'.block b (m.lt b o hb) (no b)⟩
  · exact ⟨x'.os, x'.tape, x'.output, x'.size, fun b hb _ => x'.block b hb (no b), x'.znew, fun b hz _ => x'.zold b hz (no b), fun b hb => .inl hb⟩
end
end Go.Aug

/-
  The abstract layer, closed runs, part E: functions that defer one closure, reckoned where they return.
-/
namespace Go.Aug
section
variable {P : Program} {V : Env}
/-- What is handed back is let go. -/
theorem ACall.deepen {f : FuncId} {args : List A} {H : Heap} {K : A → Heap → Prop} (h : ACall P V f args H fun r H' => deepK H' r fun d H'' => K (.d d) H'') : ACall P V f args H K :=
  fun Z w cv hl hr m => (h Z w cv hl hr m).mono fun _ _ ⟨v, r, _, _, he, rr, m', x, k⟩ =>
    let ⟨d, H1, Z1, r1, m1, x1, k'⟩ := deepK_sound r k m' rr
    ⟨v, .d d, Z1, H1, he, .d _ _ r1, m1, x.trans m.zlt x1, k'⟩
/-- A closed call, what it hands back let go. -/
def xclosedD (P : Program) (V : Env) (tab : FuncId → Option (Nat × List ResultVar × SCode)) (orc : XRec → XCall) (n : Nat) (f : FuncId) (args : List D) : Option D :=
  xbind (xcallBy P V tab orc (xrun P V (xcallBy P V tab orc) n) f (args.map .d) xh0) fun p => xbind (xdeep p.2 p.1) fun q => some q.1
theorem xclosedD_ok (hm : P.follows .mixedOrders = true) {tab : FuncId → Option (Nat × List ResultVar × SCode)} {orc : XRec → XCall} (ht : ∀ f e, tab f = some e → FnIs P f e.1 e.2.1 e.2.2) (ho : ∀ rec, XOk P V rec → XCallOk P V (orc rec)) {n : Nat} {f : FuncId} {args : List D} {x : D}
    (h : xclosedD P V tab orc n f args = some x) (H : Heap) : ACall P V f (args.map .d) H fun r _ => r = .d x := by
  obtain ⟨⟨r, S'⟩, h1, h2⟩ := xbind_some h
  obtain ⟨⟨d, S2⟩, h3, h4⟩ := xbind_some h2
  cases h4
  have hcall := fun rec hr => xcallBy_ok (V := V) hm ht ho rec hr
  refine ACall.deepen ?_
  refine hcall _ (xrun_ok hcall n n (Nat.le_refl n)) _ _ _ _ _ h1 [] [] _ H _ (RSL.ds args) (.start H) ?_
  intro L' U' y' H' _ _ r hH
  exact xdeep_sound h3 r hH fun _ _ => rfl
/-- A call that takes no blocks and hands back a row of its own: all else is as it was. -/
theorem ACall.keepOwn {f : FuncId} {args : List A} {E : TypeId} {sz : Nat} {ds : List D} (h : ACall P V f args (fun _ => none) (fun r H' => ∃ b v, r = .own b v ∧ H' b = some (.arr E sz v ds))) (H : Heap) :
    ACall P V f args H (fun r H' => ∃ b v, r = .own b v ∧ H b = none ∧ v.ownBlock = some b ∧ H' = upd H b (.arr E sz v ds)) := by
  intro Z w cv hl hr m
  have no : ∀ b, ¬ Own (fun _ => none) b := fun b ⟨o, ho, _⟩ => by cases ho
  refine (h Z w cv hl hr (m.le fun b o hb => by cases hb)).mono ?_
  rintro e w' ⟨v, r, Z', H', rfl, rr, m', x', b, u, rfl, hb⟩
  have kk : Keeps Z w Z' w' := x'.keeps (fun b hb => (no b hb).elim)
  have hown : Own H' b := ⟨_, hb, rfl⟩
  have hge : w.heap.size ≤ b := by
    rcases x'.own b hown with h1 | h1
    · exact (no b h1).elim
    · exact h1
  have hn : H b = none := by
    cases hc : H b with
    | none => rfl
    | some o => have := m.lt b o hc; omega
  have hob := m'.heap b _ hb
  refine ⟨v, .own b u, Z', upd H b (.arr E sz u ds), rfl, rr, ⟨?_, m'.zlt, m'.env, ?_⟩, ?_, b, u, rfl, hn, hob.2.2.2.1, rfl⟩
  · intro c o hc
    unfold upd at hc
    split at hc
    · rename_i e; subst e; cases hc; exact hob
    · exact (m.heap c o hc).keep kk fun hw => ⟨x'.zold c (m.own c ⟨o, hc, hw⟩) (no c), x'.block c (m.lt c o hc) (no c)⟩
  · intro c o hc
    unfold upd at hc
    split at hc
    · rename_i e; subst e; exact m'.lt _ _ hb
    · exact Nat.lt_of_lt_of_le (m.lt c o hc) x'.size
  · refine ⟨x'.os, x'.tape, x'.output, x'.size, fun c hc _ => x'.block c hc (no c), x'.znew, fun c hz _ => x'.zold c hz (no c), fun c ⟨o, hc, hw⟩ => ?_⟩
    unfold upd at hc
    split at hc
    · rename_i e; subst e; exact .inr hge
    · exact .inl ⟨o, hc, hw⟩
/-- A closed call that hands back a row of its own. -/
def xclosedO (P : Program) (V : Env) (tab : FuncId → Option (Nat × List ResultVar × SCode)) (orc : XRec → XCall) (n : Nat) (f : FuncId) (args : List D) : Option (TypeId × Nat × List D) :=
  xbind (xcallBy P V tab orc (xrun P V (xcallBy P V tab orc) n) f (args.map .d) xh0) fun p => match p.1 with
    | .own i v => match p.2.at i with
      | some (.arr E sz v' ds) => xif (sameV v' v) (some (E, sz, ds))
      | _ => none
    | _ => none
theorem xclosedO_ok (hm : P.follows .mixedOrders = true) {tab : FuncId → Option (Nat × List ResultVar × SCode)} {orc : XRec → XCall} (ht : ∀ f e, tab f = some e → FnIs P f e.1 e.2.1 e.2.2) (ho : ∀ rec, XOk P V rec → XCallOk P V (orc rec)) {n : Nat} {f : FuncId} {args : List D} {E : TypeId} {sz : Nat} {ds : List D}
    (h : xclosedO P V tab orc n f args = some (E, sz, ds)) (H : Heap) : ACall P V f (args.map .d) H (fun r H' => ∃ b v, r = .own b v ∧ H b = none ∧ v.ownBlock = some b ∧ H' = upd H b (.arr E sz v ds)) := by
  refine ACall.keepOwn ?_ H
  obtain ⟨⟨r, S'⟩, h1, h2⟩ := xbind_some h
  simp only at h2
  split at h2
  · rename_i i v
    split at h2
    · rename_i E' sz' v' ds' hat
      obtain ⟨h3, h4⟩ := xif_some h2
      cases h4
      have hcall := fun rec hr => xcallBy_ok (V := V) hm ht ho rec hr
      refine hcall _ (xrun_ok hcall n n (Nat.le_refl n)) _ _ _ _ _ h1 [] [] _ _ _ (RSL.ds args) (.start _) ?_
      intro L' U' y' H' _ _ r hH
      cases r with
      | own i b k u hi hu => exact ⟨b, u, rfl, row_arr hH hi hu hat h3⟩
    · cases h2
  · cases h2
end
end Go.Aug
