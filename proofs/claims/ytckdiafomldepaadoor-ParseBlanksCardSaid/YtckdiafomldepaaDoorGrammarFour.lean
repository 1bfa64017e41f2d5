/- The grammar as plain functions, and what holds of them; no conditions but those in each theorem. -/
import Derived.Test.YtckdiafomldepaaDoorGrammarTwo
set_option linter.all false
set_option linter.unusedVariables false
set_option linter.unusedSimpArgs false
set_option linter.unusedSectionVars false

/- Plain: rows that are not long: what the reader makes is small. -/
namespace Go.Aug
set_option maxRecDepth 100000
set_option linter.unusedSimpArgs false
attribute [local irreducible] hid andK letA onSome onVar onArr arrOnly onInt onBool onTup idxA ldV ldD addO ofPart appTo fillL slA srcK nilQ retW gif sgd sguard svc sops sdops sagain aopO aLoad aStore aBin aUn aConv aLen aIndexAddr aIndex aIndexAddrS aIndexS aSlice aAppend aBuild aBuildSlice aMakeSlice aField aFieldOf aCallOp deepK deepL frzM putE newK newV growV ACall roundQ thenQ inBlockQ sret cnd szs nilC aLookup aMapUpdate aMakeMap
attribute [local go_sem] Int.natCast_zero
mutual
def Tm.small : Tm → Prop
 | .mk _ _ _ xs => xs.length ≤ 32768 ∧ Tm.smalls xs
def Tm.smalls : List Tm → Prop
 | [] => True
 | t :: ts => t.small ∧ Tm.smalls ts
end
theorem Tm.smalls_mem : ∀ {ts : List Tm}, Tm.smalls ts → ∀ t ∈ ts, t.small
 | _ :: _, h, _, .head _ => h.1
 | _ :: _, h, t, .tail _ ht => Tm.smalls_mem h.2 t ht
mutual
def Ty.small : Ty → Prop
 | .mk _ _ xs => xs.length ≤ 32768 ∧ Ty.smalls xs
def Ty.smalls : List Ty → Prop
 | [] => True
 | t :: ts => t.small ∧ Ty.smalls ts
end
theorem Ty.smalls_mem : ∀ {ts : List Ty}, Ty.smalls ts → ∀ t ∈ ts, t.small
 | _ :: _, h, _, .head _ => h.1
 | _ :: _, h, t, .tail _ ht => Ty.smalls_mem h.2 t ht
mutual
def Gl.small : Gl → Prop
 | .mk _ a b _ xs gs => a.small ∧ b.small ∧ xs.length ≤ 32768 ∧ Tm.smalls xs ∧ gs.length ≤ 32768 ∧ Gl.smalls gs
def Gl.smalls : List Gl → Prop
 | [] => True
 | t :: ts => t.small ∧ Gl.smalls ts
end
theorem Gl.smalls_mem : ∀ {ts : List Gl}, Gl.smalls ts → ∀ t ∈ ts, t.small
 | _ :: _, h, _, .head _ => h.1
 | _ :: _, h, t, .tail _ ht => Gl.smalls_mem h.2 t ht
/-- An item whose rows are not too long. -/
structure It.small (it : It) : Prop where
 vars : it.vars.length ≤ 32768
 nct : it.ctors.length ≤ 32768
 ctors : ∀ c ∈ it.ctors, c.args.length ≤ 32768 ∧ Ty.smalls c.args
 types : it.types.length ≤ 32768 ∧ Ty.smalls it.types
 ways : it.ways.length ≤ 32768
 args : it.args.length ≤ 32768 ∧ Tm.smalls it.args
 body : it.body.small
theorem rargs_all {α : Type} {P : α → Prop} {p : RdS → α × RdS} {l : List Tok} (hp : ∀ s, P (p s).1) : ∀ (k : Nat) (xs : List α) (s : RdS), (∀ x ∈ xs, P x) → ∀ x ∈ (rargs p l k xs s).1, P x
 | 0, xs, s, h => h
 | k + 1, xs, s, h => by
  simp only [rargs]
  repeat' split
  ·refine rargs_all hp k _ _ fun x hx => ?_
   rcases List.mem_append.1 hx with hx | hx
   ·exact h x hx
   ·rw [List.mem_singleton.1 hx]; exact hp _
  ·exact h
  ·exact h
theorem rargs_length {α : Type} {p : RdS → α × RdS} {l : List Tok} : ∀ (k : Nat) (xs : List α) (s : RdS), (rargs p l k xs s).1.length ≤ xs.length + k
 | 0, xs, s => Nat.le_refl _
 | k + 1, xs, s => by
  simp only [rargs]
  repeat' split
  ·have := rargs_length (p := p) (l := l) k (xs ++ [(p (rmore l xs.length s).2).1]) (p (rmore l xs.length s).2).2
   simp only [List.length_append, List.length_cons, List.length_nil] at this; omega
  ·simp only; omega
  ·simp only; omega
theorem Tm.smalls_of : ∀ {ts : List Tm}, (∀ t ∈ ts, t.small) → Tm.smalls ts
 | [], _ => trivial
 | _ :: _, h => ⟨h _ (.head _), Tm.smalls_of fun t ht => h t (.tail _ ht)⟩
theorem Ty.smalls_of : ∀ {ts : List Ty}, (∀ t ∈ ts, t.small) → Ty.smalls ts
 | [], _ => trivial
 | _ :: _, h => ⟨h _ (.head _), Ty.smalls_of fun t ht => h t (.tail _ ht)⟩
theorem Gl.smalls_of : ∀ {ts : List Gl}, (∀ t ∈ ts, t.small) → Gl.smalls ts
 | [], _ => trivial
 | _ :: _, h => ⟨h _ (.head _), Gl.smalls_of fun t ht => h t (.tail _ ht)⟩
theorem Tm.small_leaf (k : Int) (n : ByteArray) (i : Int) : (Tm.mk k n i []).small := by simp [Tm.small, Tm.smalls]
theorem Ty.small_leaf (v : Bool) (n : ByteArray) : (Ty.mk v n []).small := by simp [Ty.small, Ty.smalls]
theorem rterm_small {l : List Tok} : ∀ (f n : Nat) (s : RdS), (rterm f l n s).1.small
 | 0, _, _ => Tm.small_leaf _ _ _
 | f + 1, n, s => by
  have hrow : ∀ s, (Tm.mk 3 (rword l 1 (rnest l n s)).1 0 (rargs (rterm f l (n + 1)) l 10 [] (rword l 1 (rnest l n s)).2).1).small := fun s => by
   refine ⟨?_, Tm.smalls_of (rargs_all (fun s => rterm_small f (n + 1) s) 10 [] _ (by simp))⟩
   have := rargs_length (p := rterm f l (n + 1)) (l := l) 10 [] (rword l 1 (rnest l n s)).2
   simp only [List.length_nil] at this; omega
  simp only [rterm]
  split
  ·split
   ·exact Tm.small_leaf _ _ _
   ·split
    ·exact Tm.small_leaf _ _ _
    ·exact hrow s
  ·exact hrow s
theorem rtype_small {l : List Tok} : ∀ (f n : Nat) (s : RdS), (rtype f l n s).1.small
 | 0, _, _ => Ty.small_leaf _ _
 | f + 1, n, s => by
  have hrow : ∀ nm s, (Ty.mk false nm (rargs (rtype f l (n + 1)) l 10 [] s).1).small := fun nm s => by
   refine ⟨?_, Ty.smalls_of (rargs_all (fun s => rtype_small f (n + 1) s) 10 [] _ (by simp))⟩
   have := rargs_length (p := rtype f l (n + 1)) (l := l) 10 [] s
   simp only [List.length_nil] at this; omega
  simp only [rtype]
  repeat' split
  all_goals first
   | exact Ty.small_leaf _ _
   | exact hrow _ _
theorem Tm.small_none : Tm.none.small := Tm.small_leaf _ _ _
theorem rands_all {P : Gl → Prop} {p : RdS → Gl × RdS} {l : List Tok} (hp : ∀ s, P (p s).1) : ∀ (k : Nat) (gs : List Gl) (s : RdS), (∀ x ∈ gs, P x) → ∀ x ∈ (rands p l k gs s).1, P x
 | 0, gs, s, h => h
 | k + 1, gs, s, h => by
  simp only [rands]
  split
  ·refine rands_all hp k _ _ fun x hx => ?_
   rcases List.mem_append.1 hx with hx | hx
   ·exact h x hx
   ·rw [List.mem_singleton.1 hx]; exact hp _
  ·exact h
theorem rands_length {p : RdS → Gl × RdS} {l : List Tok} : ∀ (k : Nat) (gs : List Gl) (s : RdS), (rands p l k gs s).1.length ≤ gs.length + k
 | 0, gs, s => Nat.le_refl _
 | k + 1, gs, s => by
  simp only [rands]
  split
  ·have := rands_length (p := p) (l := l) k (gs ++ [(p (rgot l kComma s).2).1]) (p (rgot l kComma s).2).2
   simp only [List.length_append, List.length_cons, List.length_nil] at this; omega
  ·simp only; omega
theorem Gl.small_none (k : Int) : (Gl.mk k .none .none ⟨#[]⟩ [] []).small := by
 simp [Gl.small, Gl.smalls, Tm.smalls, Tm.small_none]
theorem Gl.small_row (k : Int) {gs : List Gl} (h : ∀ g ∈ gs, g.small) (hl : gs.length ≤ 32768) : (Gl.mk k .none .none ⟨#[]⟩ [] gs).small := by
 simp only [Gl.small, Tm.smalls, List.length_nil]
 exact ⟨Tm.small_none, Tm.small_none, by omega, trivial, hl, Gl.smalls_of h⟩
theorem headD_all {P : Gl → Prop} {gs : List Gl} (h : ∀ g ∈ gs, P g) (hd : P default) : P (gs.headD default) := by
 cases gs with
 | nil => exact hd
 | cons g gs => exact h g (.head _)
theorem rway_small {p : RdS → Gl × RdS} {l : List Tok} (hl : l.length ≤ 16384) (hp : ∀ s, (p s).1.small) (s : RdS) : (rway p l s).1.small := by
 simp only [rway, allOf]
 have h1 := rands_all (l := l) hp l.length [(p s).1] (p s).2 (by simp [hp])
 have h2 := rands_length (p := p) (l := l) l.length [(p s).1] (p s).2
 simp only [List.length_cons, List.length_nil] at h2
 split
 ·exact Gl.small_row 5 h1 (by omega)
 ·exact headD_all h1 (Gl.small_none _)
theorem rors_all {p : RdS → Gl × RdS} {l : List Tok} (hl : l.length ≤ 16384) (hp : ∀ s, (p s).1.small) : ∀ (k : Nat) (os : List Gl) (s : RdS), (∀ x ∈ os, x.small) → ∀ x ∈ (rors p l k os s).1, x.small
 | 0, os, s, h => h
 | k + 1, os, s, h => by
  have h2 : ∀ x ∈ os ++ [(rway p l s).1], x.small := fun x hx => by
   rcases List.mem_append.1 hx with hx | hx
   ·exact h x hx
   ·rw [List.mem_singleton.1 hx]; exact rway_small hl hp s
  simp only [rors]
  repeat' split
  ·exact rors_all hl hp k _ _ h2
  ·exact h2
  ·exact h
theorem rors_length {p : RdS → Gl × RdS} {l : List Tok} : ∀ (k : Nat) (os : List Gl) (s : RdS), (rors p l k os s).1.length ≤ os.length + k
 | 0, os, s => Nat.le_refl _
 | k + 1, os, s => by
  simp only [rors]
  repeat' split
  ·have := rors_length (p := p) (l := l) k (os ++ [(rway p l s).1]) (rgot l kSemi (rway p l s).2).2
   simp only [List.length_append, List.length_cons, List.length_nil] at this; omega
  ·simp only [List.length_append, List.length_cons, List.length_nil]; omega
  ·simp only; omega
theorem rgoalW_small {p : RdS → Gl × RdS} {l : List Tok} (hl : l.length ≤ 16384) (hp : ∀ s, (p s).1.small) (s : RdS) : (rgoalW p l s).1.small := by
 simp only [rgoalW, anyOf]
 have h1 := rors_all hl hp (l.length + 1) [] s (by simp)
 have h2 := rors_length (p := p) (l := l) (l.length + 1) [] s
 simp only [List.length_nil] at h2
 split
 ·exact headD_all h1 (Gl.small_none _)
 ·exact Gl.small_row 6 h1 (by omega)
theorem Tm.small_args {t : Tm} (h : t.small) : t.args.length ≤ 32768 ∧ Tm.smalls t.args := by
 cases t; exact h
theorem rprim_small {l : List Tok} (hl : l.length ≤ 16384) : ∀ (f n : Nat) (s : RdS), (rprim f l n s).1.small
 | 0, _, _ => Gl.small_none _
 | f + 1, n, s => by
  have ih := fun s => rprim_small hl f (n + 1) s
  simp only [rprim]
  repeat' split
  ·exact Gl.small_none _
  ·exact Gl.small_none _
  ·exact Gl.small_row 7 (by simp [ih]) (by simp)
  ·simp only [Gl.small, Tm.smalls, Gl.smalls, List.length_nil]
   exact ⟨rterm_small _ _ _, Tm.small_none, by omega, trivial, by omega, trivial⟩
  ·simp only [rtry, Gl.small, Tm.smalls, Gl.smalls, List.length_nil, List.length_cons]
   exact ⟨Tm.small_none, Tm.small_none, by omega, trivial, by omega, ih _, ih _, trivial⟩
  ·exact rgoalW_small hl ih _
  ·simp only [rcall]
   split
   ·simp only [Gl.small, Tm.smalls, Gl.smalls, List.length_nil]
    exact ⟨rterm_small _ _ _, rterm_small _ _ _, by omega, trivial, by omega, trivial⟩
   ·have := Tm.small_args (rterm_small (l := l) f (n + 1) (rnest l n s))
    simp only [Gl.small, Gl.smalls, List.length_nil]
    exact ⟨Tm.small_none, Tm.small_none, this.1, this.2, by omega, trivial⟩
theorem rctor_small {l : List Tok} (s : RdS) : (rctor l s).1.args.length ≤ 32768 ∧ Ty.smalls (rctor l s).1.args := by
 refine ⟨?_, Ty.smalls_of (rargs_all (fun s => rtype_small 66 1 s) 10 [] _ (by simp))⟩
 have := rargs_length (p := rtype 66 l 1) (l := l) 10 [] (rword l 1 s).2
 simp only [List.length_nil] at this; simp only [rctor]; omega
theorem rbars_all {P : Ct → Prop} {l : List Tok} (hp : ∀ s, P (rctor l s).1) : ∀ (k : Nat) (cs : List Ct) (s : RdS), (∀ x ∈ cs, P x) → ∀ x ∈ (rbars l k cs s).1, P x
 | 0, cs, s, h => h
 | k + 1, cs, s, h => by
  simp only [rbars]
  split
  ·refine rbars_all hp k _ _ fun x hx => ?_
   rcases List.mem_append.1 hx with hx | hx
   ·exact h x hx
   ·rw [List.mem_singleton.1 hx]; exact hp _
  ·exact h
theorem rbars_length {l : List Tok} : ∀ (k : Nat) (cs : List Ct) (s : RdS), (rbars l k cs s).1.length ≤ cs.length + k
 | 0, cs, s => Nat.le_refl _
 | k + 1, cs, s => by
  simp only [rbars]
  split
  ·have := rbars_length (l := l) k (cs ++ [(rctor l (rgot l kBar s).2).1]) (rctor l (rgot l kBar s).2).2
   simp only [List.length_append, List.length_cons, List.length_nil] at this; omega
  ·simp only; omega
theorem ritem_small {l : List Tok} (hl : l.length ≤ 16384) (s : RdS) : (ritem l s).1.small := by
 have z : (default : It).small := ⟨by decide, by decide, by simp [default, instInhabitedIt], ⟨by decide, trivial⟩, by decide, ⟨by decide, trivial⟩, Gl.small_none 0⟩
 have rl : ∀ {α : Type} (p : RdS → α × RdS) (s : RdS), (rargs p l 10 [] s).1.length ≤ 32768 := fun p s => by
  have := rargs_length (p := p) (l := l) 10 [] s
  simp only [List.length_nil] at this; omega
 unfold ritem
 repeat' split
 ·simp only [ritType]
  refine ⟨rl _ _, ?_, ?_, z.types, z.ways, z.args, z.body⟩
  ·exact Nat.le_trans (rbars_length _ _ _) (by simp only [List.length_cons, List.length_nil]; omega)
  ·exact rbars_all (fun s => rctor_small s) _ _ _ (by simp only [List.mem_singleton]; rintro c rfl; exact rctor_small _)
 ·simp only [ritPred]
  exact ⟨z.vars, z.nct, z.ctors, ⟨rl _ _, Ty.smalls_of (rargs_all (fun s => rtype_small 66 1 s) 10 [] _ (by simp))⟩, z.ways, z.args, z.body⟩
 ·simp only [ritMode]
  exact ⟨z.vars, z.nct, z.ctors, z.types, rl _ _, z.args, z.body⟩
 ·simp only [ritClause]
  have ha := Tm.smalls_of (rargs_all (l := l) (fun s => rterm_small (l := l) 66 1 s) 10 [] (rword l 1 s).2 (by simp))
  split
  ·exact ⟨z.vars, z.nct, z.ctors, z.types, z.ways, ⟨rl _ _, ha⟩, rgoalW_small hl (fun s => rprim_small hl 66 1 s) _⟩
  ·exact ⟨z.vars, z.nct, z.ctors, z.types, z.ways, ⟨rl _ _, ha⟩, Gl.small_none 1⟩
theorem ritems_all {P : It → Prop} {l : List Tok} (hp : ∀ s, P (ritem l s).1) : ∀ (k : Nat) (is : List It) (s : RdS), (∀ x ∈ is, P x) → ∀ x ∈ (ritems l k is s).1, P x
 | 0, is, s, h => h
 | k + 1, is, s, h => by
  simp only [ritems]
  repeat' split
  ·exact h
  ·exact h
  ·refine ritems_all hp k _ _ fun x hx => ?_
   rcases List.mem_append.1 hx with hx | hx
   ·exact h x hx
   ·rw [List.mem_singleton.1 hx]; exact hp _
theorem ritems_length {l : List Tok} : ∀ (k : Nat) (is : List It) (s : RdS), is.length ≤ 512 → (ritems l k is s).1.length ≤ 512
 | 0, is, s, h => h
 | k + 1, is, s, h => by
  simp only [ritems]
  repeat' split
  ·exact h
  ·exact h
  ·exact ritems_length k _ _ (by simp only [List.length_append, List.length_cons, List.length_nil]; omega)
/-- The items of a text; the error's number. -/
def rtext (s : ByteArray) : List It × Int := rsource (rlex s).1 (rlex s).2
/-- A source that the reference's names take. -/
structure Srcs (l : List It) : Prop where
 len : l.length ≤ 1048576
 small : ∀ it ∈ l, it.small
theorem rtext_srcs (s : ByteArray) : Srcs (rtext s).1 := by
 unfold rtext rsource
 simp only
 split
 ·exact ⟨by simp, by simp⟩
 ·exact ⟨Nat.le_trans (ritems_length _ _ _ (by simp)) (by omega), ritems_all (fun s => ritem_small (rlex_len _) s) _ _ _ (by simp)⟩
mutual
def Tm.nodes : Tm → Nat
 | .mk _ _ _ xs => 1 + Tm.nodess xs
def Tm.nodess : List Tm → Nat
 | [] => 0
 | t :: ts => t.nodes + Tm.nodess ts
end
theorem Tm.nodes_pos (t : Tm) : 1 ≤ t.nodes := by cases t; simp only [Tm.nodes]; omega
mutual
def Gl.nodes : Gl → Nat
 | .mk _ a b _ xs gs => 1 + a.nodes + b.nodes + Tm.nodess xs + Gl.nodess gs
def Gl.nodess : List Gl → Nat
 | [] => 0
 | g :: gs => g.nodes + Gl.nodess gs
end
theorem Gl.nodes_pos (g : Gl) : 1 ≤ g.nodes := by cases g; simp only [Gl.nodes]; omega
mutual
def Ty.nodes : Ty → Nat
 | .mk _ _ xs => 1 + Ty.nodess xs
def Ty.nodess : List Ty → Nat
 | [] => 0
 | t :: ts => t.nodes + Ty.nodess ts
end
theorem Ty.nodess_mem {t : Ty} : ∀ {ts : List Ty}, t ∈ ts → t.nodes ≤ Ty.nodess ts
 | _ :: _, .head _ => by simp only [Ty.nodess]; omega
 | _ :: _, .tail _ h => by have := Ty.nodess_mem h; simp only [Ty.nodess]; omega
theorem list_at {α : Type} {l : List α} {k : Nat} (h : k < l.length) : ∃ x, l[k]? = some x := ⟨l[k], by simp [h]⟩
theorem Tm.nodess_mem {t : Tm} : ∀ {ts : List Tm}, t ∈ ts → t.nodes ≤ Tm.nodess ts
 | _ :: _, .head _ => by simp only [Tm.nodess]; omega
 | _ :: _, .tail _ h => by have := Tm.nodess_mem h; simp only [Tm.nodess]; omega
theorem Gl.nodess_mem {t : Gl} : ∀ {ts : List Gl}, t ∈ ts → t.nodes ≤ Gl.nodess ts
 | _ :: _, .head _ => by simp only [Gl.nodess]; omega
 | _ :: _, .tail _ h => by have := Gl.nodess_mem h; simp only [Gl.nodess]; omega
theorem It.opn (it : It) : ∃ x1 x2 x3 x4 x5 x6 x7 x8 x9 x10 x11 x12, it.body.cs = [x1, x2, x3, x4, x5, x6, x7, x8, x9, x10, x11, x12] ∧ it.d = .agg [.int .i64 it.kind, .str it.name, .slice (it.vars.map .str), .slice (it.ctors.map Ct.d), .slice (it.types.map Ty.d), .slice (it.ways.map .bool), .int .i64 it.det, .slice (it.args.map Tm.d), x1, x2, x3, x4, x5, x6, x7, x8, x9, x10, x11, x12] := by
 obtain ⟨x1, x2, x3, x4, x5, x6, x7, x8, x9, x10, x11, x12, h⟩ := it.body.opn
 exact ⟨_, _, _, _, _, _, _, _, _, _, _, _, h, by simp [It.d, It.cs, h]⟩
end Go.Aug
