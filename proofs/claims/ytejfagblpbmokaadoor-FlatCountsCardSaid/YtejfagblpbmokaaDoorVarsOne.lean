/- The contracts of flat.Vars and of the laws that range over it; conditions stand in each contract. -/
import Derived.Test.YtejfagblpbmokaaDoorFlatOne
set_option linter.all false
set_option linter.unusedVariables false
set_option linter.unusedSimpArgs false
set_option linter.unusedSectionVars false

/- FlatCounts, plain: how a reader's terms and goals are shaped; constructors, ints and calls of clauses and of flat goals. -/
namespace Go.Aug
set_option maxRecDepth 100000
set_option linter.unusedSimpArgs false
mutual
/-- Variables and ints have no arguments. -/
def Tm.wf : Tm → Prop
 | .mk k _ _ ts => (k = 1 ∨ k = 2 → ts = []) ∧ Tm.wfs ts
def Tm.wfs : List Tm → Prop
 | [] => True
 | t :: ts => t.wf ∧ Tm.wfs ts
end
mutual
/-- Goals have rows where their kinds have them. -/
def Gl.wf : Gl → Prop
 | .mk k a b _ xs gs => (k ≠ 4 → xs = []) ∧ (k ≠ 5 → k ≠ 6 → k ≠ 7 → k ≠ 9 → gs = []) ∧ a.wf ∧ b.wf ∧ Tm.wfs xs ∧ Gl.wfs gs
def Gl.wfs : List Gl → Prop
 | [] => True
 | g :: gs => g.wf ∧ Gl.wfs gs
end
structure It.wf (it : It) : Prop where
 args : Tm.wfs it.args
 body : it.body.wf
theorem Tm.wfs_of : ∀ {ts : List Tm}, (∀ t ∈ ts, t.wf) → Tm.wfs ts
 | [], _ => trivial
 | _ :: _, h => ⟨h _ (.head _), Tm.wfs_of fun t ht => h t (.tail _ ht)⟩
theorem Gl.wfs_of : ∀ {ts : List Gl}, (∀ t ∈ ts, t.wf) → Gl.wfs ts
 | [], _ => trivial
 | _ :: _, h => ⟨h _ (.head _), Gl.wfs_of fun t ht => h t (.tail _ ht)⟩
theorem Tm.wf_leaf (k : Int) (n : ByteArray) (i : Int) : (Tm.mk k n i []).wf := ⟨fun _ => rfl, trivial⟩
theorem rterm_wf {l : List Tok} : ∀ (f n : Nat) (s : RdS), (rterm f l n s).1.wf
 | 0, _, _ => Tm.wf_leaf _ _ _
 | f + 1, n, s => by
  have hrow : (Tm.mk 3 (rword l 1 (rnest l n s)).1 0 (rargs (rterm f l (n + 1)) l 10 [] (rword l 1 (rnest l n s)).2).1).wf :=
   ⟨fun h => by rcases h with h | h <;> exact absurd h (by decide), Tm.wfs_of (rargs_all (fun s => rterm_wf f (n + 1) s) 10 [] _ (by simp))⟩
  simp only [rterm]
  split
  ·split
   ·exact Tm.wf_leaf _ _ _
   ·split
    ·exact Tm.wf_leaf _ _ _
    ·exact hrow
  ·exact hrow
theorem Gl.wf_none (k : Int) : (Gl.mk k .none .none ⟨#[]⟩ [] []).wf := ⟨fun _ => rfl, fun _ _ _ _ => rfl, Tm.wf_leaf _ _ _, Tm.wf_leaf _ _ _, trivial, trivial⟩
theorem Gl.wf_row {k : Int} (hk : k = 5 ∨ k = 6 ∨ k = 7 ∨ k = 9) (n : ByteArray) {gs : List Gl} (h : ∀ g ∈ gs, g.wf) : (Gl.mk k .none .none n [] gs).wf :=
 ⟨fun _ => rfl, fun h1 h2 h3 h4 => by rcases hk with h | h | h | h <;> contradiction, Tm.wf_leaf _ _ _, Tm.wf_leaf _ _ _, trivial, Gl.wfs_of h⟩
theorem rands_wf {p : RdS → Gl × RdS} {l : List Tok} (hp : ∀ s, (p s).1.wf) : ∀ (k : Nat) (gs : List Gl) (s : RdS), (∀ x ∈ gs, x.wf) → ∀ x ∈ (rands p l k gs s).1, x.wf
 | 0, gs, s, h => h
 | k + 1, gs, s, h => by
  simp only [rands]
  split
  ·refine rands_wf hp k _ _ fun x hx => ?_
   rcases List.mem_append.1 hx with hx | hx
   ·exact h x hx
   ·rw [List.mem_singleton.1 hx]; exact hp _
  ·exact h
theorem rway_wf {p : RdS → Gl × RdS} {l : List Tok} (hp : ∀ s, (p s).1.wf) (s : RdS) : (rway p l s).1.wf := by
 simp only [rway, allOf]
 have h1 := rands_wf (l := l) hp l.length [(p s).1] (p s).2 (by simp [hp])
 split
 ·exact Gl.wf_row (.inl rfl) _ h1
 ·exact headD_all h1 (Gl.wf_none _)
theorem rors_wf {p : RdS → Gl × RdS} {l : List Tok} (hp : ∀ s, (p s).1.wf) : ∀ (k : Nat) (os : List Gl) (s : RdS), (∀ x ∈ os, x.wf) → ∀ x ∈ (rors p l k os s).1, x.wf
 | 0, os, s, h => h
 | k + 1, os, s, h => by
  have h2 : ∀ x ∈ os ++ [(rway p l s).1], x.wf := fun x hx => by
   rcases List.mem_append.1 hx with hx | hx
   ·exact h x hx
   ·rw [List.mem_singleton.1 hx]; exact rway_wf hp s
  simp only [rors]
  repeat' split
  ·exact rors_wf hp k _ _ h2
  ·exact h2
  ·exact h
theorem rgoalW_wf {p : RdS → Gl × RdS} {l : List Tok} (hp : ∀ s, (p s).1.wf) (s : RdS) : (rgoalW p l s).1.wf := by
 simp only [rgoalW, anyOf]
 have h1 := rors_wf (l := l) hp (l.length + 1) [] s (by simp)
 split
 ·exact headD_all h1 (Gl.wf_none _)
 ·exact Gl.wf_row (.inr (.inl rfl)) _ h1
theorem Tm.wf_args {t : Tm} (h : t.wf) : Tm.wfs t.args := by cases t; exact h.2
theorem rprim_wf {l : List Tok} : ∀ (f n : Nat) (s : RdS), (rprim f l n s).1.wf
 | 0, _, _ => Gl.wf_none _
 | f + 1, n, s => by
  have ih := fun s => rprim_wf (l := l) f (n + 1) s
  simp only [rprim]
  repeat' split
  ·exact Gl.wf_none _
  ·exact Gl.wf_none _
  ·exact Gl.wf_row (.inr (.inr (.inl rfl))) _ (by simp [ih])
  ·exact ⟨fun _ => rfl, fun _ _ _ _ => rfl, rterm_wf _ _ _, Tm.wf_leaf _ _ _, trivial, trivial⟩
  ·simp only [rtry]
   exact Gl.wf_row (.inr (.inr (.inr rfl))) _ (by simp [ih])
  ·exact rgoalW_wf ih _
  ·simp only [rcall]
   split
   ·exact ⟨fun _ => rfl, fun _ _ _ _ => rfl, rterm_wf _ _ _, rterm_wf _ _ _, trivial, trivial⟩
   ·exact ⟨fun h => absurd rfl h, fun _ _ _ _ => rfl, Tm.wf_leaf _ _ _, Tm.wf_leaf _ _ _, Tm.wf_args (rterm_wf (l := l) f (n + 1) (rnest l n s)), trivial⟩
theorem ritem_wf {l : List Tok} (s : RdS) : (ritem l s).1.wf := by
 have z : (default : It).wf := ⟨trivial, Gl.wf_none 0⟩
 unfold ritem
 repeat' split
 ·simp only [ritType]; exact ⟨z.args, z.body⟩
 ·simp only [ritPred]; exact ⟨z.args, z.body⟩
 ·simp only [ritMode]; exact ⟨z.args, z.body⟩
 ·simp only [ritClause]
  have ha := Tm.wfs_of (rargs_all (l := l) (fun s => rterm_wf (l := l) 66 1 s) 10 [] (rword l 1 s).2 (by simp))
  split
  ·exact ⟨ha, rgoalW_wf (fun s => rprim_wf 66 1 s) _⟩
  ·exact ⟨ha, Gl.wf_none 1⟩
theorem rtext_wf (s : ByteArray) : ∀ it ∈ (rtext s).1, it.wf := by
 unfold rtext rsource
 simp only
 split
 ·simp
 ·exact ritems_all (fun s => ritem_wf s) _ _ _ (by simp)
mutual
def Tm.cnt : Tm → Nat
 | .mk k _ _ ts => (if k = 1 then 0 else 1) + Tm.cnts ts
def Tm.cnts : List Tm → Nat
 | [] => 0
 | t :: ts => t.cnt + Tm.cnts ts
end
mutual
def Gl.cnt : Gl → Nat
 | .mk k a b _ xs gs => (if k = 3 then a.cnt + b.cnt else if k = 8 then a.cnt else if k = 4 then 1 else 0) + Tm.cnts xs + Gl.cnts gs
def Gl.cnts : List Gl → Nat
 | [] => 0
 | g :: gs => g.cnt + Gl.cnts gs
end
mutual
def Fl.cnt : Fl → Nat
 | .mk k _ _ _ _ _ _ gs => (if k = 5 ∨ k = 4 ∨ k = 6 then 1 else 0) + Fl.cnts gs
def Fl.cnts : List Fl → Nat
 | [] => 0
 | g :: gs => g.cnt + Fl.cnts gs
end
def It.cnt (it : It) : Nat := it.body.cnt + Tm.cnts it.args
mutual
theorem Tm.cnt_le : ∀ t : Tm, t.cnt ≤ t.nodes
 | .mk k n i ts => by have := Tm.cnts_le ts; simp only [Tm.cnt, Tm.nodes]; split <;> omega
theorem Tm.cnts_le : ∀ ts : List Tm, Tm.cnts ts ≤ Tm.nodess ts
 | [] => by simp [Tm.cnts]
 | t :: ts => by have := t.cnt_le; have := Tm.cnts_le ts; simp only [Tm.cnts, Tm.nodess]; omega
end
mutual
theorem Gl.cnt_le : ∀ g : Gl, g.cnt ≤ g.nodes
 | .mk k a b n xs gs => by
  have := a.cnt_le; have := b.cnt_le; have := Tm.cnts_le xs; have := Gl.cnts_le gs
  simp only [Gl.cnt, Gl.nodes]; repeat' split
  all_goals omega
theorem Gl.cnts_le : ∀ gs : List Gl, Gl.cnts gs ≤ Gl.nodess gs
 | [] => by simp [Gl.cnts]
 | g :: gs => by have := g.cnt_le; have := Gl.cnts_le gs; simp only [Gl.cnts, Gl.nodess]; omega
end
theorem Fl.cnts_append : ∀ (xs ys : List Fl), Fl.cnts (xs ++ ys) = Fl.cnts xs + Fl.cnts ys
 | [], ys => by simp [Fl.cnts]
 | x :: xs, ys => by simp only [List.cons_append, Fl.cnts, Fl.cnts_append xs]; omega
theorem nwhole_cnt : ∀ gs : List Fl, (nwhole gs).cnt = Fl.cnts gs
 | [] => rfl
 | [g] => by simp [nwhole, Fl.cnts]
 | a :: b :: gs => by simp [nwhole, fRow, Fl.cnt, Fl.cnts]
theorem nbody_cnt : ∀ gs : List Fl, (nbody gs).cnt = Fl.cnts gs
 | [] => rfl
 | [g] => by simp [nbody, Fl.cnts]
 | a :: b :: gs => by simp [nbody, fRow, Fl.cnt, Fl.cnts]
mutual
theorem nunify_cnt (x : Nat) : ∀ (t : Tm) (s : NS), t.wf → Fl.cnts (nunify x t s).1 = t.cnt
 | .mk k n i ts, s, h => by
  obtain ⟨h1, h2⟩ := h
  simp only [nunify]
  split
  ·rename_i hk
   rw [h1 (.inl hk)]
   split
   ·simp [Fl.cnts, Tm.cnt, Tm.cnts, hk]
   ·split
    ·simp [Fl.cnts, Tm.cnt, Tm.cnts, hk, fSame, Fl.cnt]
    ·simp [Fl.cnts, Tm.cnt, Tm.cnts, hk]
  ·rename_i hk
   split
   ·rename_i hk2
    rw [h1 (.inr hk2)]
    simp [Fl.cnts, Tm.cnt, Tm.cnts, hk, fInt, Fl.cnt]
   ·have := nunifys_cnt (nargs ts s).1 ts (nargs ts s).2 h2 (nargs_len ts s)
    simp only [Fl.cnts, this, Tm.cnt, if_neg hk, fCtor, Fl.cnt]
    simp
theorem nunifys_cnt : ∀ (vs : List Nat) (ts : List Tm) (s : NS), Tm.wfs ts → vs.length = ts.length → Fl.cnts (nunifys vs ts s).1 = Tm.cnts ts
 | a :: vs, .mk k n i ts :: rest, s, h, hl => by
  have hl' : vs.length = rest.length := by simpa using hl
  simp only [nunifys]
  split
  ·rename_i hk
   rw [nunifys_cnt vs rest s h.2 hl']
   have := h.1.1 (.inl hk)
   simp [Tm.cnts, Tm.cnt, hk, this]
  ·rw [Fl.cnts_append, nunify_cnt a _ _ h.1, nunifys_cnt vs rest _ h.2 hl']
   rfl
 | [], [], s, _, _ => by simp [nunifys, Fl.cnts, Tm.cnts]
 | [], _ :: _, s, _, hl => by simp at hl
 | _ :: _, [], s, _, hl => by simp at hl
end
theorem Tm.cnt_var {t : Tm} (h : t.wf) (hk : t.kind = 1) : t.cnt = 0 := by
 obtain ⟨k, n, i, ts⟩ := t
 have hk : k = 1 := hk
 have := h.1 (.inl hk)
 simp [Tm.cnt, Tm.cnts, hk, this]
theorem nplace_cnt (t : Tm) (s : NS) (h : t.wf) : Fl.cnts (nplace t s).2.1 = t.cnt := by
 unfold nplace
 split
 ·rename_i hk; rw [Tm.cnt_var h hk]; rfl
 ·exact nunify_cnt _ _ _ h
theorem nplaces_cnt : ∀ (ts : List Tm) (s : NS), Tm.wfs ts → Fl.cnts (nplaces ts s).2.1 = Tm.cnts ts
 | [], _, _ => rfl
 | t :: ts, s, h => by simp only [nplaces, Fl.cnts_append, nplace_cnt t s h.1, nplaces_cnt ts _ h.2, Tm.cnts]
theorem nequal_cnt (a b : Tm) (s : NS) (ha : a.wf) (hb : b.wf) : Fl.cnts (nequal a b s).1 = a.cnt + b.cnt := by
 unfold nequal
 split
 ·rename_i h
  rw [Tm.cnt_var ha h.1, Tm.cnt_var hb h.2]
  split
  ·rfl
  ·simp [Fl.cnts, fSame, Fl.cnt]
 ·split
  ·rename_i h; rw [nunify_cnt _ _ _ hb, Tm.cnt_var ha h]; omega
  ·split
   ·rename_i h; rw [nunify_cnt _ _ _ ha, Tm.cnt_var hb h]; omega
   ·rw [Fl.cnts_append, nunify_cnt _ _ _ ha, nunify_cnt _ _ _ hb]
mutual
theorem ngoal_cnt : ∀ (g : Gl) (s : NS), g.wf → Fl.cnts (ngoal g s).1 = g.cnt
 | .mk k a b n xs gs, s, h => by
  obtain ⟨h1, h2, ha, hb, hx, hg⟩ := h
  have i1 := fun s => ngoals_cnt gs s hg
  have i2 := fun s => nwholes_cnt gs s hg
  have i3 := nequal_cnt a b s ha hb
  have i4 := nplaces_cnt xs s hx
  have i5 := nplace_cnt a s ha
  unfold ngoal
  split
  ·rename_i e
   rw [h1 (by omega), h2 (by omega) (by omega) (by omega) (by omega)]
   simp [Gl.cnt, e, fRow, Fl.cnts, Fl.cnt, Tm.cnts, Gl.cnts]
  split
  ·rename_i e
   rw [h1 (by omega), h2 (by omega) (by omega) (by omega) (by omega)]
   simp only [Gl.cnt, if_pos e, Tm.cnts, Gl.cnts, i3]; omega
  split
  ·rename_i e
   rw [h2 (by omega) (by omega) (by omega) (by omega), Fl.cnts_append, i4]
   simp [Gl.cnt, e, fCall, Fl.cnts, Fl.cnt, Gl.cnts]; omega
  split
  ·rename_i e
   rw [h1 (by omega), h2 (by omega) (by omega) (by omega) (by omega), Fl.cnts_append, i5]
   simp [Gl.cnt, e, fRow, Fl.cnts, Fl.cnt, Tm.cnts, Gl.cnts]
  split
  ·rename_i e
   rw [h1 (by omega), i1]
   simp [Gl.cnt, e, Tm.cnts]
  split
  ·rename_i e
   rw [h1 (by omega)]
   simp [Gl.cnt, e, Tm.cnts, fRow, Fl.cnts, Fl.cnt, i2]
  split
  ·rename_i e
   rw [h1 (by omega)]
   simp [Gl.cnt, e, Tm.cnts, fRow, Fl.cnts, Fl.cnt, i2]
  split
  ·rename_i e
   rw [h1 (by omega)]
   simp [Gl.cnt, e, Tm.cnts, fRow, Fl.cnts, Fl.cnt, i2]
  ·rename_i e1 e2 e3 e4 e5 e6 e7 e8
   rw [h1 e3, h2 e5 e6 e7 e8]
   simp [Gl.cnt, e2, e3, e4, Tm.cnts, Gl.cnts, Fl.cnts]
theorem ngoals_cnt : ∀ (gs : List Gl) (s : NS), Gl.wfs gs → Fl.cnts (ngoals gs s).1 = Gl.cnts gs
 | [], _, _ => by simp [ngoals, Fl.cnts, Gl.cnts]
 | g :: gs, s, h => by simp only [ngoals, Fl.cnts_append, ngoal_cnt g s h.1, ngoals_cnt gs _ h.2, Gl.cnts]
theorem nwholes_cnt : ∀ (gs : List Gl) (s : NS), Gl.wfs gs → Fl.cnts (nwholes gs s).1 = Gl.cnts gs
 | [], _, _ => by simp [nwholes, Fl.cnts, Gl.cnts]
 | g :: gs, s, h => by simp only [nwholes, Fl.cnts, nwhole_cnt, ngoal_cnt g s h.1, nwholes_cnt gs _ h.2, Gl.cnts]
end
theorem nheads_cnt : ∀ (i : Nat) (ts : List Tm) (s : NS), Tm.wfs ts → Fl.cnts (nheads i ts s).1 = Tm.cnts ts
 | _, [], _, _ => by simp [nheads, Fl.cnts, Tm.cnts]
 | i, t :: ts, s, h => by simp only [nheads, Fl.cnts_append, nunify_cnt i t s h.1, nheads_cnt (i + 1) ts _ h.2, Tm.cnts]
theorem nclause_cnt (it : It) (n : Nat) (h : it.wf) : (nclause it n).1.cnt = it.cnt := by
 simp only [nclause, nwhole_cnt, Fl.cnts_append, nheads_cnt 0 it.args _ h.args, ngoal_cnt it.body _ h.body, It.cnt]; omega
def sumCnt : List It → Nat
 | [] => 0
 | it :: ls => it.cnt + sumCnt ls
theorem nclauses_cnt : ∀ (ls : List It) (n : Nat), (∀ it ∈ ls, it.wf) → Fl.cnts (nclauses ls n).1 = sumCnt ls
 | [], _, _ => rfl
 | it :: ls, n, h => by simp only [nclauses, Fl.cnts, sumCnt, nclause_cnt it n (h it (.head _)), nclauses_cnt ls _ fun x hx => h x (.tail _ hx)]
end Go.Aug

/- FlatCounts: how many constructors, ints and calls stand in terms, goals, flat goals. -/
namespace Go.Aug
open Go.Proofs
set_option maxRecDepth 100000
set_option linter.unusedSimpArgs false
attribute [local irreducible] hid andK letA onSome onVar onArr arrOnly onInt onBool onTup idxA ldV ldD addO appTo fillL slA srcK nilQ retW gif sgd sguard svc sops sdops sagain aopO aLoad aStore aBin aUn aConv aLen aIndexAddr aIndex aIndexAddrS aIndexS aSlice aAppend aBuild aBuildSlice aMakeSlice aField aFieldOf aCallOp deepK deepL frzM putE newK newV growV ACall roundQ thenQ inBlockQ sret cnd szs nilC onMap onRow aLookup aMapUpdate aMakeMap
attribute [local go_sem] Int.natCast_zero
theorem wrapAdd {a b : Nat} (h : a + b ≤ 1099511627774) : IntKind.i64.wrap ((a : Int) + (b : Int)) = ((a + b : Nat) : Int) := by
 rw [wrap64 (by omega) (by omega)]; omega
theorem Tm.smalls_at : ∀ {ts : List Tm}, Tm.smalls ts → ∀ t ∈ ts, t.small
 | _ :: _, h, _, .head _ => h.1
 | _ :: _, h, _, .tail _ ht => Tm.smalls_at h.2 _ ht
theorem Gl.smalls_at : ∀ {ts : List Gl}, Gl.smalls ts → ∀ t ∈ ts, t.small
 | _ :: _, h, _, .head _ => h.1
 | _ :: _, h, _, .tail _ ht => Gl.smalls_at h.2 _ ht
theorem Gl.nodess_at {g : Gl} : ∀ {gs : List Gl}, g ∈ gs → g.nodes ≤ Gl.nodess gs
 | _ :: _, .head _ => by simp only [Gl.nodess]; omega
 | _ :: _, .tail _ h => by have := Gl.nodess_at h; simp only [Gl.nodess]; omega
theorem Tm.nodess_at {g : Tm} : ∀ {gs : List Tm}, g ∈ gs → g.nodes ≤ Tm.nodess gs
 | _ :: _, .head _ => by simp only [Tm.nodess]; omega
 | _ :: _, .tail _ h => by have := Tm.nodess_at h; simp only [Tm.nodess]; omega
set_option maxHeartbeats 4000000 in
theorem ofTerm_ok {eb : EbG} : ∀ (m : Nat) (t : Tm), t.nodes ≤ m → t.small → t.cnt ≤ 1099511627774 → ∀ (H : Heap) (K : A → Heap → Prop) (_ : K (.d (.int .i64 t.cnt)) H), ACall Tryd.prog (seatV eb) 42 [.d t.d] H K
 | 0, t, hm, _, _, _, _, _ => by have := t.nodes_pos; omega
 | m + 1, .mk k n i ts, hm, hs, hc, H, K, hK => by
  obtain ⟨hl, hts⟩ := hs
  simp only [Tm.nodes] at hm
  simp only [Tm.cnt] at hK hc
  refine ACall.hp_start ?_
  refine ACall.by mixed fn42 (by simp) ?_
  conv in s42 => cbv
  refine svc_start ?_
  simp -dsimp only [go_sem, gS, Tm.d, Tm.cs, Tm.ds_map]
  refine newK_hp (fun b1 f1 => ?_)
  simp only [off_cons, off_nil] at f1
  simp -dsimp only [go_sem, gS, f1]
  refine (fun (key : (?T : Prop)) => ?main) ?rest
  case main =>
   refine gif_split (fun g1 => ?_) (fun g1 => ?_)
   ·have e1 : k ≠ 1 := by simpa using g1
    simp -dsimp only [go_sem, gS, g1, f1]
    refine svc_loop (X := Nat × Nat) (fun u => [(3, .d (.int .i64 u.2)), (10, .d (.slice (ts.map Tm.d))), (11, .d (.int .i64 ts.length)), (12, .d (.int .i64 u.1))])
     (fun u G => G = hp H [] ∧ u.1 ≤ ts.length ∧ u.2 + Tm.cnts (ts.drop u.1) = (if k = 1 then 0 else 1) + Tm.cnts ts) (fun u => ts.length - u.1) (0, 1) _ ⟨rfl, Nat.zero_le _, by rw [if_neg e1]; rfl⟩ (by simp -dsimp only [go_sem, gS, Int.natCast_one]) (leH_hp0 (by simp only [hpS, eq_self, implies_true, f1])) ?_
    exact key
   ·have e1 : k = 1 := by simpa using g1
    simp -dsimp only [go_sem, gS, g1, f1]
    refine svc_loop (X := Nat × Nat) (fun u => [(3, .d (.int .i64 u.2)), (10, .d (.slice (ts.map Tm.d))), (11, .d (.int .i64 ts.length)), (12, .d (.int .i64 u.1))])
     (fun u G => G = hp H [] ∧ u.1 ≤ ts.length ∧ u.2 + Tm.cnts (ts.drop u.1) = (if k = 1 then 0 else 1) + Tm.cnts ts) (fun u => ts.length - u.1) (0, 0) _ ⟨rfl, Nat.zero_le _, by rw [if_pos e1]; rfl⟩ (by simp -dsimp only [go_sem, gS, Int.natCast_one]) (leH_hp0 (by simp only [hpS, eq_self, implies_true, f1])) ?_
    exact key
  case rest =>
   rintro ⟨j, c⟩ G ⟨hG, hj, hcc⟩
   simp only at hG hj hcc
   rw [hG]
   simp -dsimp only [go_sem, gS]
   refine gif_split (fun q1 => ?_) (fun q1 => ?_)
   ·have q1' : j < ts.length := by have := of_decide_eq_true q1; omega
    obtain ⟨u, hu⟩ := list_at q1'
    have hum := List.mem_of_getElem? hu
    have hd : ts.drop j = u :: ts.drop (j + 1) := by rw [List.drop_eq_getElem_cons q1']; rw [List.getElem?_eq_getElem q1'] at hu; cases hu; rfl
    rw [hd, Tm.cnts] at hcc
    have hw := wrapN (k := j) (by omega)
    have hc2 : u.cnt ≤ 1099511627774 := by omega
    have hwa := wrapAdd (a := c) (b := u.cnt) (by omega)
    have ihu := fun H K h => ofTerm_ok (eb := eb) m u (by have := Tm.nodess_at hum; omega) (Tm.smalls_at hts u hum) hc2 H K h
    generalize u.cnt = uc at hcc hwa ihu hc2
    obtain ⟨uk, un, ui, uts⟩ := u
    simp -dsimp only [go_sem, gS, q1, hu, List.getElem?_map, Option.map_some, Tm.d, Tm.cs]
    refine newK_hp (fun b5 f5 => ?_)
    simp only [off_cons, off_nil] at f5
    simp -dsimp only [go_sem, gS, f5]
    refine ihu _ _ ?_
    simp -dsimp only [go_sem, gS, f5, hwa, hw]
    exact roundQ_next (j + 1, c + uc) _ ⟨rfl, q1', by simp only; omega⟩ (by simp only; omega) (by simp -dsimp only [go_sem, gS]) (leH_hp0 (by simp only [hpS, eq_self, implies_true, f5]))
   ·rw [List.drop_eq_nil_of_le (by have := of_decide_eq_false q1; omega), Tm.cnts] at hcc
    rw [← hcc] at hK
    simp -dsimp only [go_sem, gS, q1]
    exact retW_is hK
set_option maxHeartbeats 4000000 in
theorem ofFlat_ok {eb : EbG} : ∀ (m : Nat) (f : Fl), f.nodes ≤ m → f.fit → f.cnt ≤ 1099511627774 → ∀ (H : Heap) (K : A → Heap → Prop) (_ : K (.d (.int .i64 f.cnt)) H), ACall Tryd.prog (seatV eb) 43 [.d f.d] H K
 | 0, .mk k x y i c p xs gs, hm, _, _, _, _, _ => by simp only [Fl.nodes] at hm; omega
 | m + 1, .mk k x y i ⟨cn, ca⟩ ⟨pn, pa⟩ xs gs, hm, hs, hc, H, K, hK => by
  obtain ⟨_, hl, hgs⟩ := hs
  simp only [Fl.nodes] at hm
  simp only [Fl.cnt] at hK hc
  refine ACall.hp_start ?_
  refine ACall.by mixed fn43 (by simp) ?_
  conv in s43 => cbv
  refine svc_start ?_
  simp -dsimp only [go_sem, gS, Fl.d, Fl.cs, Fl.ds_map]
  refine newK_hp (fun b1 f1 => ?_)
  simp only [off_cons, off_nil] at f1
  simp -dsimp only [go_sem, gS, f1]
  refine (fun (key : (?T : Prop)) => ?main) ?rest
  case main =>
   by_cases e5 : k = 5
   ·have h5 : decide (k = 5) = true := decide_eq_true e5
    simp -dsimp only [go_sem, gS, h5, f1]
    refine svc_loop (X := Nat × Nat) (fun u => [(3, .d (.int .i64 u.2)), (20, .d (.slice (gs.map Fl.d))), (21, .d (.int .i64 gs.length)), (22, .d (.int .i64 u.1))])
     (fun u G => G = hp H [] ∧ u.1 ≤ gs.length ∧ u.2 + Fl.cnts (gs.drop u.1) = (if k = 5 ∨ k = 4 ∨ k = 6 then 1 else 0) + Fl.cnts gs) (fun u => gs.length - u.1) (0, 1) _ ⟨rfl, Nat.zero_le _, by rw [if_pos (.inl e5)]; rfl⟩ (by simp -dsimp only [go_sem, gS, Int.natCast_one]) (leH_hp0 (by simp only [hpS, eq_self, implies_true, f1])) ?_
    exact key
   ·have h5 : decide (k = 5) = false := decide_eq_false e5
    by_cases e4 : k = 4
    ·have h4 : decide (k = 4) = true := decide_eq_true e4
     simp -dsimp only [go_sem, gS, h5, h4, f1]
     refine svc_loop (X := Nat × Nat) (fun u => [(3, .d (.int .i64 u.2)), (20, .d (.slice (gs.map Fl.d))), (21, .d (.int .i64 gs.length)), (22, .d (.int .i64 u.1))])
      (fun u G => G = hp H [] ∧ u.1 ≤ gs.length ∧ u.2 + Fl.cnts (gs.drop u.1) = (if k = 5 ∨ k = 4 ∨ k = 6 then 1 else 0) + Fl.cnts gs) (fun u => gs.length - u.1) (0, 1) _ ⟨rfl, Nat.zero_le _, by rw [if_pos (.inr (.inl e4))]; rfl⟩ (by simp -dsimp only [go_sem, gS, Int.natCast_one]) (leH_hp0 (by simp only [hpS, eq_self, implies_true, f1])) ?_
     exact key
    ·have h4 : decide (k = 4) = false := decide_eq_false e4
     by_cases e6 : k = 6
     ·have h6 : decide (k = 6) = true := decide_eq_true e6
      simp -dsimp only [go_sem, gS, h5, h4, h6, f1]
      refine svc_loop (X := Nat × Nat) (fun u => [(3, .d (.int .i64 u.2)), (20, .d (.slice (gs.map Fl.d))), (21, .d (.int .i64 gs.length)), (22, .d (.int .i64 u.1))])
       (fun u G => G = hp H [] ∧ u.1 ≤ gs.length ∧ u.2 + Fl.cnts (gs.drop u.1) = (if k = 5 ∨ k = 4 ∨ k = 6 then 1 else 0) + Fl.cnts gs) (fun u => gs.length - u.1) (0, 1) _ ⟨rfl, Nat.zero_le _, by rw [if_pos (.inr (.inr e6))]; rfl⟩ (by simp -dsimp only [go_sem, gS, Int.natCast_one]) (leH_hp0 (by simp only [hpS, eq_self, implies_true, f1])) ?_
      exact key
     ·have h6 : decide (k = 6) = false := decide_eq_false e6
      simp -dsimp only [go_sem, gS, h5, h4, h6, f1]
      refine svc_loop (X := Nat × Nat) (fun u => [(3, .d (.int .i64 u.2)), (20, .d (.slice (gs.map Fl.d))), (21, .d (.int .i64 gs.length)), (22, .d (.int .i64 u.1))])
       (fun u G => G = hp H [] ∧ u.1 ≤ gs.length ∧ u.2 + Fl.cnts (gs.drop u.1) = (if k = 5 ∨ k = 4 ∨ k = 6 then 1 else 0) + Fl.cnts gs) (fun u => gs.length - u.1) (0, 0) _ ⟨rfl, Nat.zero_le _, by rw [if_neg (fun h => h.elim e5 fun h => h.elim e4 e6)]; rfl⟩ (by simp -dsimp only [go_sem, gS, Int.natCast_one]) (leH_hp0 (by simp only [hpS, eq_self, implies_true, f1])) ?_
      exact key
  case rest =>
   rintro ⟨j, c⟩ G ⟨hG, hj, hcc⟩
   simp only at hG hj hcc
   rw [hG]
   simp -dsimp only [go_sem, gS]
   refine gif_split (fun q1 => ?_) (fun q1 => ?_)
   ·have q1' : j < gs.length := by have := of_decide_eq_true q1; omega
    obtain ⟨u, hu⟩ := list_at q1'
    have hum := List.mem_of_getElem? hu
    have hd : gs.drop j = u :: gs.drop (j + 1) := by rw [List.drop_eq_getElem_cons q1']; rw [List.getElem?_eq_getElem q1'] at hu; cases hu; rfl
    rw [hd, Fl.cnts] at hcc
    have hw := wrapN (k := j) (by omega)
    have hc2 : u.cnt ≤ 1099511627774 := by omega
    have hwa := wrapAdd (a := c) (b := u.cnt) (by omega)
    have ihu := fun H K h => ofFlat_ok (eb := eb) m u (by have := Fl.nodess_mem hum; omega) (Fl.fits_mem hgs u hum) hc2 H K h
    generalize u.cnt = uc at hcc hwa ihu hc2
    obtain ⟨uk, ux, uy, ui, ⟨ucn, uca⟩, ⟨upn, upa⟩, uxs, ugs⟩ := u
    simp -dsimp only [go_sem, gS, q1, hu, List.getElem?_map, Option.map_some, Fl.d, Fl.cs]
    refine newK_hp (fun b5 f5 => ?_)
    simp only [off_cons, off_nil] at f5
    simp -dsimp only [go_sem, gS, f5]
    refine ihu _ _ ?_
    simp -dsimp only [go_sem, gS, f5, hwa, hw]
    exact roundQ_next (j + 1, c + uc) _ ⟨rfl, q1', by simp only; omega⟩ (by simp only; omega) (by simp -dsimp only [go_sem, gS]) (leH_hp0 (by simp only [hpS, eq_self, implies_true, f5]))
   ·rw [List.drop_eq_nil_of_le (by have := of_decide_eq_false q1; omega), Fl.cnts] at hcc
    rw [← hcc] at hK
    simp -dsimp only [go_sem, gS, q1]
    exact retW_is hK
end Go.Aug

/- FlatCounts: how many constructors, ints and calls stand in a goal. -/
namespace Go.Aug
open Go.Proofs
set_option maxRecDepth 100000
set_option linter.unusedSimpArgs false
attribute [local irreducible] hid andK letA onSome onVar onArr arrOnly onInt onBool onTup idxA ldV ldD addO appTo fillL slA srcK nilQ retW gif sgd sguard svc sops sdops sagain aopO aLoad aStore aBin aUn aConv aLen aIndexAddr aIndex aIndexAddrS aIndexS aSlice aAppend aBuild aBuildSlice aMakeSlice aField aFieldOf aCallOp deepK deepL frzM putE newK newV growV ACall roundQ thenQ inBlockQ sret cnd szs nilC onMap onRow aLookup aMapUpdate aMakeMap
attribute [local go_sem] Int.natCast_zero
set_option maxHeartbeats 8000000 in
theorem ofGoal_ok {eb : EbG} : ∀ (m : Nat) (g : Gl), g.nodes ≤ m → g.small → g.cnt ≤ 1099511627774 → ∀ (H : Heap) (K : A → Heap → Prop) (_ : K (.d (.int .i64 g.cnt)) H), ACall Tryd.prog (seatV eb) 41 [.d g.d] H K
 | 0, .mk k a b n xs gs, hm, _, _, _, _, _ => by have := a.nodes_pos; simp only [Gl.nodes] at hm; omega
 | m + 1, .mk k (.mk k1 n1 i1 xs1) (.mk k2 n2 i2 xs2) n xs gs, hm, hs, hc, H, K, hK => by
  obtain ⟨hsa, hsb, hxl, hsx, hgl, hgs⟩ := hs
  simp only [Gl.nodes] at hm
  simp only [Gl.cnt] at hK hc
  have iha := fun h H K hk => ofTerm_ok (eb := eb) _ (.mk k1 n1 i1 xs1) (Nat.le_refl _) hsa h H K hk
  have ihb := fun h H K hk => ofTerm_ok (eb := eb) _ (.mk k2 n2 i2 xs2) (Nat.le_refl _) hsb h H K hk
  have hpa := (Tm.mk k1 n1 i1 xs1).nodes_pos
  generalize (Tm.mk k1 n1 i1 xs1).cnt = ca at iha hK hc
  generalize (Tm.mk k2 n2 i2 xs2).cnt = cb at ihb hK hc
  have ha3 : k = 3 → ca ≤ 1099511627774 ∧ cb ≤ 1099511627774 ∧ ca + cb ≤ 1099511627774 := fun e => by rw [if_pos e] at hc; omega
  have ha8 : k = 8 → ca ≤ 1099511627774 := fun e => by rw [if_neg (by omega), if_pos e] at hc; omega
  refine ACall.hp_start ?_
  refine ACall.by mixed fn41 (by simp) ?_
  conv in s41 => cbv
  refine svc_start ?_
  simp -dsimp only [go_sem, gS, Gl.d, Gl.cs, Tm.cs, List.cons_append, List.nil_append, Gl.ds_map]
  refine newK_hp (fun b1 f1 => ?_)
  simp only [off_cons, off_nil] at f1
  simp -dsimp only [go_sem, gS, f1]
  refine (fun (key : (?T : Prop)) => ?main) ?rest
  case main =>
   by_cases e3 : k = 3
   ·have h3 : decide (k = 3) = true := decide_eq_true e3
    simp -dsimp only [go_sem, gS, h3, f1]
    refine iha (ha3 e3).1 _ _ ?_
    simp -dsimp only [go_sem, gS, h3, f1]
    refine ihb (ha3 e3).2.1 _ _ ?_
    simp -dsimp only [go_sem, gS, h3, f1, wrapAdd (a := ca) (b := cb) (ha3 e3).2.2]
    refine svc_loop (X := Nat × Nat) (fun u => [(1, .ref b1 0), (3, .d (.int .i64 u.2)), (27, .d (.slice (xs.map Tm.d))), (28, .d (.int .i64 xs.length)), (29, .d (.int .i64 u.1))])
     (fun u G => G = hp H [(b1, .var [.d (.int .i64 k), .d (.int .i64 k1), .d (.str n1), .d (.int .i64 i1), .d (.slice (Tm.ds xs1)), .d (.int .i64 k2), .d (.str n2), .d (.int .i64 i2), .d (.slice (Tm.ds xs2)), .d (.str n), .d (.slice (xs.map Tm.d)), .d (.slice (gs.map Gl.d))])] ∧ u.1 ≤ xs.length ∧ u.2 + Tm.cnts (xs.drop u.1) = (if k = 3 then ca + cb else if k = 8 then ca else if k = 4 then 1 else 0) + Tm.cnts xs) (fun u => xs.length - u.1) (0, ca + cb) _ ⟨rfl, Nat.zero_le _, by rw [if_pos e3]; rfl⟩ (by simp -dsimp only [go_sem, gS, Int.natCast_one]) (leH_hp (by simp only [hpS, eq_self, implies_true, f1]) (by simp only [hpS, eq_self, implies_true, f1])) ?_
    exact key
   ·have h3 : decide (k = 3) = false := decide_eq_false e3
    by_cases e8 : k = 8
    ·have h8 : decide (k = 8) = true := decide_eq_true e8
     simp -dsimp only [go_sem, gS, h3, h8, f1]
     refine iha (ha8 e8) _ _ ?_
     simp -dsimp only [go_sem, gS, h3, h8, f1]
     refine svc_loop (X := Nat × Nat) (fun u => [(1, .ref b1 0), (3, .d (.int .i64 u.2)), (27, .d (.slice (xs.map Tm.d))), (28, .d (.int .i64 xs.length)), (29, .d (.int .i64 u.1))])
      (fun u G => G = hp H [(b1, .var [.d (.int .i64 k), .d (.int .i64 k1), .d (.str n1), .d (.int .i64 i1), .d (.slice (Tm.ds xs1)), .d (.int .i64 k2), .d (.str n2), .d (.int .i64 i2), .d (.slice (Tm.ds xs2)), .d (.str n), .d (.slice (xs.map Tm.d)), .d (.slice (gs.map Gl.d))])] ∧ u.1 ≤ xs.length ∧ u.2 + Tm.cnts (xs.drop u.1) = (if k = 3 then ca + cb else if k = 8 then ca else if k = 4 then 1 else 0) + Tm.cnts xs) (fun u => xs.length - u.1) (0, ca) _ ⟨rfl, Nat.zero_le _, by rw [if_neg e3, if_pos e8]; rfl⟩ (by simp -dsimp only [go_sem, gS, Int.natCast_one]) (leH_hp (by simp only [hpS, eq_self, implies_true, f1]) (by simp only [hpS, eq_self, implies_true, f1])) ?_
     exact key
    ·have h8 : decide (k = 8) = false := decide_eq_false e8
     by_cases e4 : k = 4
     ·have h4 : decide (k = 4) = true := decide_eq_true e4
      simp -dsimp only [go_sem, gS, h3, h8, h4, f1]
      refine svc_loop (X := Nat × Nat) (fun u => [(1, .ref b1 0), (3, .d (.int .i64 u.2)), (27, .d (.slice (xs.map Tm.d))), (28, .d (.int .i64 xs.length)), (29, .d (.int .i64 u.1))])
       (fun u G => G = hp H [(b1, .var [.d (.int .i64 k), .d (.int .i64 k1), .d (.str n1), .d (.int .i64 i1), .d (.slice (Tm.ds xs1)), .d (.int .i64 k2), .d (.str n2), .d (.int .i64 i2), .d (.slice (Tm.ds xs2)), .d (.str n), .d (.slice (xs.map Tm.d)), .d (.slice (gs.map Gl.d))])] ∧ u.1 ≤ xs.length ∧ u.2 + Tm.cnts (xs.drop u.1) = (if k = 3 then ca + cb else if k = 8 then ca else if k = 4 then 1 else 0) + Tm.cnts xs) (fun u => xs.length - u.1) (0, 1) _ ⟨rfl, Nat.zero_le _, by rw [if_neg e3, if_neg e8, if_pos e4]; rfl⟩ (by simp -dsimp only [go_sem, gS, Int.natCast_one]) (leH_hp (by simp only [hpS, eq_self, implies_true, f1]) (by simp only [hpS, eq_self, implies_true, f1])) ?_
      exact key
     ·have h4 : decide (k = 4) = false := decide_eq_false e4
      simp -dsimp only [go_sem, gS, h3, h8, h4, f1]
      refine svc_loop (X := Nat × Nat) (fun u => [(1, .ref b1 0), (3, .d (.int .i64 u.2)), (27, .d (.slice (xs.map Tm.d))), (28, .d (.int .i64 xs.length)), (29, .d (.int .i64 u.1))])
       (fun u G => G = hp H [(b1, .var [.d (.int .i64 k), .d (.int .i64 k1), .d (.str n1), .d (.int .i64 i1), .d (.slice (Tm.ds xs1)), .d (.int .i64 k2), .d (.str n2), .d (.int .i64 i2), .d (.slice (Tm.ds xs2)), .d (.str n), .d (.slice (xs.map Tm.d)), .d (.slice (gs.map Gl.d))])] ∧ u.1 ≤ xs.length ∧ u.2 + Tm.cnts (xs.drop u.1) = (if k = 3 then ca + cb else if k = 8 then ca else if k = 4 then 1 else 0) + Tm.cnts xs) (fun u => xs.length - u.1) (0, 0) _ ⟨rfl, Nat.zero_le _, by rw [if_neg e3, if_neg e8, if_neg e4]; rfl⟩ (by simp -dsimp only [go_sem, gS, Int.natCast_one]) (leH_hp (by simp only [hpS, eq_self, implies_true, f1]) (by simp only [hpS, eq_self, implies_true, f1])) ?_
      exact key
  case rest =>
   rintro ⟨j, c⟩ G ⟨hG, hj, hcc⟩
   simp only at hG hj hcc
   subst hG
   simp -dsimp only [go_sem, gS]
   refine gif_split (fun q1 => ?_) (fun q1 => ?_)
   ·have q1' : j < xs.length := by have := of_decide_eq_true q1; omega
    obtain ⟨u, hu⟩ := list_at q1'
    have hum := List.mem_of_getElem? hu
    have hd : xs.drop j = u :: xs.drop (j + 1) := by rw [List.drop_eq_getElem_cons q1']; rw [List.getElem?_eq_getElem q1'] at hu; cases hu; rfl
    rw [hd, Tm.cnts] at hcc
    have hw := wrapN (k := j) (by omega)
    have hc2 : u.cnt ≤ 1099511627774 := by omega
    have hwa := wrapAdd (a := c) (b := u.cnt) (by omega)
    have ihu := fun H K h => ofTerm_ok (eb := eb) _ u (Nat.le_refl _) (Tm.smalls_at hsx u hum) hc2 H K h
    generalize u.cnt = uc at hcc hwa ihu hc2
    obtain ⟨uk, un, ui, uts⟩ := u
    simp -dsimp only [go_sem, gS, q1, hu, f1, List.getElem?_map, Option.map_some, Tm.d, Tm.cs]
    refine newK_hp (fun b5 f5 => ?_)
    simp only [off_cons, off_nil] at f5
    simp -dsimp only [go_sem, gS, f1, f5]
    refine ihu _ _ ?_
    simp -dsimp only [go_sem, gS, f1, f5, hwa, hw]
    exact roundQ_next (j + 1, c + uc) _ ⟨rfl, q1', by simp only; omega⟩ (by simp only; omega) (by simp -dsimp only [go_sem, gS]) (leH_hp (by simp only [hpS, eq_self, implies_true, f1, f5]) (by simp only [hpS, eq_self, implies_true, f1, f5]))
   ·rw [List.drop_eq_nil_of_le (by have := of_decide_eq_false q1; omega), Tm.cnts] at hcc
    generalize ((if k = 3 then ca + cb else if k = 8 then ca else if k = 4 then 1 else 0)) + Tm.cnts xs = base at hcc hK hc
    obtain rfl : c = base := by omega
    simp -dsimp only [go_sem, gS, q1, f1]
    refine svc_loop (X := Nat × Nat) (fun u => [(3, .d (.int .i64 u.2)), (39, .d (.slice (gs.map Gl.d))), (40, .d (.int .i64 gs.length)), (41, .d (.int .i64 u.1))])
     (fun u G => G = hp H [] ∧ u.1 ≤ gs.length ∧ u.2 + Gl.cnts (gs.drop u.1) = c + Gl.cnts gs) (fun u => gs.length - u.1) (0, c) _ ⟨rfl, Nat.zero_le _, rfl⟩ (by simp -dsimp only [go_sem, gS]) (leH_hp0 (by simp only [hpS, eq_self, implies_true, f1])) ?_
    clear hcc q1
    rintro ⟨j, d⟩ G ⟨hG, hj, hcc⟩
    simp only at hG hj hcc
    rw [hG]
    simp -dsimp only [go_sem, gS]
    refine gif_split (fun q1 => ?_) (fun q1 => ?_)
    ·have q1' : j < gs.length := by have := of_decide_eq_true q1; omega
     obtain ⟨u, hu⟩ := list_at q1'
     have hum := List.mem_of_getElem? hu
     have hd : gs.drop j = u :: gs.drop (j + 1) := by rw [List.drop_eq_getElem_cons q1']; rw [List.getElem?_eq_getElem q1'] at hu; cases hu; rfl
     rw [hd, Gl.cnts] at hcc
     have hw := wrapN (k := j) (by omega)
     have hc2 : u.cnt ≤ 1099511627774 := by omega
     have hwa := wrapAdd (a := d) (b := u.cnt) (by omega)
     have ihu := fun H K h => ofGoal_ok (eb := eb) m u (by have := Gl.nodess_at hum; omega) (Gl.smalls_at hgs u hum) hc2 H K h
     generalize u.cnt = uc at hcc hwa ihu hc2
     obtain ⟨uk, ⟨ak, an, ai, ats⟩, ⟨bk, bn, bi, bts⟩, un, uxs, ugs⟩ := u
     simp -dsimp only [go_sem, gS, q1, hu, List.getElem?_map, Option.map_some, Gl.d, Gl.cs, Tm.cs, List.cons_append, List.nil_append]
     refine newK_hp (fun b7 f7 => ?_)
     simp only [off_cons, off_nil] at f7
     simp -dsimp only [go_sem, gS, f7]
     refine ihu _ _ ?_
     simp -dsimp only [go_sem, gS, f7, hwa, hw]
     exact roundQ_next (j + 1, d + uc) _ ⟨rfl, q1', by simp only; omega⟩ (by simp only; omega) (by simp -dsimp only [go_sem, gS]) (leH_hp0 (by simp only [hpS, eq_self, implies_true, f7]))
    ·rw [List.drop_eq_nil_of_le (by have := of_decide_eq_false q1; omega), Gl.cnts] at hcc
     rw [← hcc] at hK
     simp -dsimp only [go_sem, gS, q1]
     exact retW_is hK
end Go.Aug
