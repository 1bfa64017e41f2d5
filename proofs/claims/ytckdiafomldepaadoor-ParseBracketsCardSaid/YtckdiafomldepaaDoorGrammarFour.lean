/- The grammar as plain functions, and what holds of them; no conditions but those in each theorem. -/
import Derived.Test.YtckdiafomldepaaDoorGrammarTwo
set_option linter.all false
set_option linter.unusedVariables false
set_option linter.unusedSimpArgs false
set_option linter.unusedSectionVars false

/- Plain: rows that are not long: what the reader makes is small. -/
namespace Go.Aug
set_option maxRecDepth 100000
set_option linter.unusedSimpArgs false
attribute [local irreducible] hid andK letA onSome onVar onArr arrOnly onInt onBool onTup idxA ldV ldD addO ofPart appTo fillL slA srcK nilQ retW gif sgd sguard svc sops sdops sagain aopO aLoad aStore aBin aUn aConv aLen aIndexAddr aIndex aIndexAddrS aIndexS aSlice aAppend aBuild aBuildSlice aMakeSlice aField aFieldOf aCallOp deepK deepL frzM putE newK newV growV ACall roundQ thenQ inBlockQ sret cnd szs nilC aLookup aMapUpdate aMakeMap
attribute [local go_sem] Int.natCast_zero
mutual
def Tm.small : Tm → Prop
 | .mk _ _ _ xs => xs.length ≤ 32768 ∧ Tm.smalls xs
def Tm.smalls : List Tm → Prop
 | [] => True
 | t :: ts => t.small ∧ Tm.smalls ts
end
theorem Tm.smalls_mem : ∀ {ts : List Tm}, Tm.smalls ts → ∀ t ∈ ts, t.small
 | _ :: _, h, _, .head _ => h.1
 | _ :: _, h, t, .tail _ ht => Tm.smalls_mem h.2 t ht
mutual
def Gl.small : Gl → Prop
 | .mk _ a b _ xs gs => a.small ∧ b.small ∧ xs.length ≤ 32768 ∧ Tm.smalls xs ∧ gs.length ≤ 32768 ∧ Gl.smalls gs
def Gl.smalls : List Gl → Prop
 | [] => True
 | t :: ts => t.small ∧ Gl.smalls ts
end
theorem Gl.smalls_mem : ∀ {ts : List Gl}, Gl.smalls ts → ∀ t ∈ ts, t.small
 | _ :: _, h, _, .head _ => h.1
 | _ :: _, h, t, .tail _ ht => Gl.smalls_mem h.2 t ht
theorem rargs_all {α : Type} {P : α → Prop} {p : RdS → α × RdS} {l : List Tok} (hp : ∀ s, P (p s).1) : ∀ (k : Nat) (xs : List α) (s : RdS), (∀ x ∈ xs, P x) → ∀ x ∈ (rargs p l k xs s).1, P x
 | 0, xs, s, h => h
 | k + 1, xs, s, h => by
  simp only [rargs]
  repeat' split
  ·refine rargs_all hp k _ _ fun x hx => ?_
   rcases List.mem_append.1 hx with hx | hx
   ·exact h x hx
   ·rw [List.mem_singleton.1 hx]; exact hp _
  ·exact h
  ·exact h
theorem rargs_length {α : Type} {p : RdS → α × RdS} {l : List Tok} : ∀ (k : Nat) (xs : List α) (s : RdS), (rargs p l k xs s).1.length ≤ xs.length + k
 | 0, xs, s => Nat.le_refl _
 | k + 1, xs, s => by
  simp only [rargs]
  repeat' split
  ·have := rargs_length (p := p) (l := l) k (xs ++ [(p (rmore l xs.length s).2).1]) (p (rmore l xs.length s).2).2
   simp only [List.length_append, List.length_cons, List.length_nil] at this; omega
  ·simp only; omega
  ·simp only; omega
theorem Tm.smalls_of : ∀ {ts : List Tm}, (∀ t ∈ ts, t.small) → Tm.smalls ts
 | [], _ => trivial
 | _ :: _, h => ⟨h _ (.head _), Tm.smalls_of fun t ht => h t (.tail _ ht)⟩
theorem Gl.smalls_of : ∀ {ts : List Gl}, (∀ t ∈ ts, t.small) → Gl.smalls ts
 | [], _ => trivial
 | _ :: _, h => ⟨h _ (.head _), Gl.smalls_of fun t ht => h t (.tail _ ht)⟩
theorem Tm.small_leaf (k : Int) (n : ByteArray) (i : Int) : (Tm.mk k n i []).small := by simp [Tm.small, Tm.smalls]
theorem rterm_small {l : List Tok} : ∀ (f n : Nat) (s : RdS), (rterm f l n s).1.small
 | 0, _, _ => Tm.small_leaf _ _ _
 | f + 1, n, s => by
  have hrow : ∀ s, (Tm.mk 3 (rword l 1 (rnest l n s)).1 0 (rargs (rterm f l (n + 1)) l 10 [] (rword l 1 (rnest l n s)).2).1).small := fun s => by
   refine ⟨?_, Tm.smalls_of (rargs_all (fun s => rterm_small f (n + 1) s) 10 [] _ (by simp))⟩
   have := rargs_length (p := rterm f l (n + 1)) (l := l) 10 [] (rword l 1 (rnest l n s)).2
   simp only [List.length_nil] at this; omega
  simp only [rterm]
  split
  ·split
   ·exact Tm.small_leaf _ _ _
   ·split
    ·exact Tm.small_leaf _ _ _
    ·exact hrow s
  ·exact hrow s
theorem Tm.small_none : Tm.none.small := Tm.small_leaf _ _ _
theorem rands_all {P : Gl → Prop} {p : RdS → Gl × RdS} {l : List Tok} (hp : ∀ s, P (p s).1) : ∀ (k : Nat) (gs : List Gl) (s : RdS), (∀ x ∈ gs, P x) → ∀ x ∈ (rands p l k gs s).1, P x
 | 0, gs, s, h => h
 | k + 1, gs, s, h => by
  simp only [rands]
  split
  ·refine rands_all hp k _ _ fun x hx => ?_
   rcases List.mem_append.1 hx with hx | hx
   ·exact h x hx
   ·rw [List.mem_singleton.1 hx]; exact hp _
  ·exact h
theorem rands_length {p : RdS → Gl × RdS} {l : List Tok} : ∀ (k : Nat) (gs : List Gl) (s : RdS), (rands p l k gs s).1.length ≤ gs.length + k
 | 0, gs, s => Nat.le_refl _
 | k + 1, gs, s => by
  simp only [rands]
  split
  ·have := rands_length (p := p) (l := l) k (gs ++ [(p (rgot l kComma s).2).1]) (p (rgot l kComma s).2).2
   simp only [List.length_append, List.length_cons, List.length_nil] at this; omega
  ·simp only; omega
theorem Gl.small_none (k : Int) : (Gl.mk k .none .none ⟨#[]⟩ [] []).small := by
 simp [Gl.small, Gl.smalls, Tm.smalls, Tm.small_none]
theorem Gl.small_row (k : Int) {gs : List Gl} (h : ∀ g ∈ gs, g.small) (hl : gs.length ≤ 32768) : (Gl.mk k .none .none ⟨#[]⟩ [] gs).small := by
 simp only [Gl.small, Tm.smalls, List.length_nil]
 exact ⟨Tm.small_none, Tm.small_none, by omega, trivial, hl, Gl.smalls_of h⟩
theorem headD_all {P : Gl → Prop} {gs : List Gl} (h : ∀ g ∈ gs, P g) (hd : P default) : P (gs.headD default) := by
 cases gs with
 | nil => exact hd
 | cons g gs => exact h g (.head _)
theorem rway_small {p : RdS → Gl × RdS} {l : List Tok} (hl : l.length ≤ 16384) (hp : ∀ s, (p s).1.small) (s : RdS) : (rway p l s).1.small := by
 simp only [rway, allOf]
 have h1 := rands_all (l := l) hp l.length [(p s).1] (p s).2 (by simp [hp])
 have h2 := rands_length (p := p) (l := l) l.length [(p s).1] (p s).2
 simp only [List.length_cons, List.length_nil] at h2
 split
 ·exact Gl.small_row 5 h1 (by omega)
 ·exact headD_all h1 (Gl.small_none _)
theorem rors_all {p : RdS → Gl × RdS} {l : List Tok} (hl : l.length ≤ 16384) (hp : ∀ s, (p s).1.small) : ∀ (k : Nat) (os : List Gl) (s : RdS), (∀ x ∈ os, x.small) → ∀ x ∈ (rors p l k os s).1, x.small
 | 0, os, s, h => h
 | k + 1, os, s, h => by
  have h2 : ∀ x ∈ os ++ [(rway p l s).1], x.small := fun x hx => by
   rcases List.mem_append.1 hx with hx | hx
   ·exact h x hx
   ·rw [List.mem_singleton.1 hx]; exact rway_small hl hp s
  simp only [rors]
  repeat' split
  ·exact rors_all hl hp k _ _ h2
  ·exact h2
  ·exact h
theorem rors_length {p : RdS → Gl × RdS} {l : List Tok} : ∀ (k : Nat) (os : List Gl) (s : RdS), (rors p l k os s).1.length ≤ os.length + k
 | 0, os, s => Nat.le_refl _
 | k + 1, os, s => by
  simp only [rors]
  repeat' split
  ·have := rors_length (p := p) (l := l) k (os ++ [(rway p l s).1]) (rgot l kSemi (rway p l s).2).2
   simp only [List.length_append, List.length_cons, List.length_nil] at this; omega
  ·simp only [List.length_append, List.length_cons, List.length_nil]; omega
  ·simp only; omega
theorem rgoalW_small {p : RdS → Gl × RdS} {l : List Tok} (hl : l.length ≤ 16384) (hp : ∀ s, (p s).1.small) (s : RdS) : (rgoalW p l s).1.small := by
 simp only [rgoalW, anyOf]
 have h1 := rors_all hl hp (l.length + 1) [] s (by simp)
 have h2 := rors_length (p := p) (l := l) (l.length + 1) [] s
 simp only [List.length_nil] at h2
 split
 ·exact headD_all h1 (Gl.small_none _)
 ·exact Gl.small_row 6 h1 (by omega)
theorem Tm.small_args {t : Tm} (h : t.small) : t.args.length ≤ 32768 ∧ Tm.smalls t.args := by
 cases t; exact h
theorem rprim_small {l : List Tok} (hl : l.length ≤ 16384) : ∀ (f n : Nat) (s : RdS), (rprim f l n s).1.small
 | 0, _, _ => Gl.small_none _
 | f + 1, n, s => by
  have ih := fun s => rprim_small hl f (n + 1) s
  simp only [rprim]
  repeat' split
  ·exact Gl.small_none _
  ·exact Gl.small_none _
  ·exact Gl.small_row 7 (by simp [ih]) (by simp)
  ·simp only [Gl.small, Tm.smalls, Gl.smalls, List.length_nil]
   exact ⟨rterm_small _ _ _, Tm.small_none, by omega, trivial, by omega, trivial⟩
  ·simp only [rtry, Gl.small, Tm.smalls, Gl.smalls, List.length_nil, List.length_cons]
   exact ⟨Tm.small_none, Tm.small_none, by omega, trivial, by omega, ih _, ih _, trivial⟩
  ·exact rgoalW_small hl ih _
  ·simp only [rcall]
   split
   ·simp only [Gl.small, Tm.smalls, Gl.smalls, List.length_nil]
    exact ⟨rterm_small _ _ _, rterm_small _ _ _, by omega, trivial, by omega, trivial⟩
   ·have := Tm.small_args (rterm_small (l := l) f (n + 1) (rnest l n s))
    simp only [Gl.small, Gl.smalls, List.length_nil]
    exact ⟨Tm.small_none, Tm.small_none, this.1, this.2, by omega, trivial⟩
mutual
def Tm.nodes : Tm → Nat
 | .mk _ _ _ xs => 1 + Tm.nodess xs
def Tm.nodess : List Tm → Nat
 | [] => 0
 | t :: ts => t.nodes + Tm.nodess ts
end
theorem Tm.nodes_pos (t : Tm) : 1 ≤ t.nodes := by cases t; simp only [Tm.nodes]; omega
mutual
def Gl.nodes : Gl → Nat
 | .mk _ a b _ xs gs => 1 + a.nodes + b.nodes + Tm.nodess xs + Gl.nodess gs
def Gl.nodess : List Gl → Nat
 | [] => 0
 | g :: gs => g.nodes + Gl.nodess gs
end
theorem Gl.nodes_pos (g : Gl) : 1 ≤ g.nodes := by cases g; simp only [Gl.nodes]; omega
theorem list_at {α : Type} {l : List α} {k : Nat} (h : k < l.length) : ∃ x, l[k]? = some x := ⟨l[k], by simp [h]⟩
theorem Tm.nodess_mem {t : Tm} : ∀ {ts : List Tm}, t ∈ ts → t.nodes ≤ Tm.nodess ts
 | _ :: _, .head _ => by simp only [Tm.nodess]; omega
 | _ :: _, .tail _ h => by have := Tm.nodess_mem h; simp only [Tm.nodess]; omega
theorem Gl.nodess_mem {t : Gl} : ∀ {ts : List Gl}, t ∈ ts → t.nodes ≤ Gl.nodess ts
 | _ :: _, .head _ => by simp only [Gl.nodess]; omega
 | _ :: _, .tail _ h => by have := Gl.nodess_mem h; simp only [Gl.nodess]; omega
end Go.Aug
