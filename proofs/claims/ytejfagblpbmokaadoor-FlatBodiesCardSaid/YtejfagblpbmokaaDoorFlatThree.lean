/- What Flatten says of a text's index, the comparison of flat goals, the example of augurlaw05, and the law's contract; conditions stand in each contract. -/
import Derived.Test.YtejfagblpbmokaaDoorFlatTwo
set_option linter.all false
set_option linter.unusedVariables false
set_option linter.unusedSimpArgs false
set_option linter.unusedSectionVars false

/- What a text's items and index are: bounds for what Flatten asks. -/
namespace Go.Aug
open Go.Proofs
set_option maxRecDepth 100000
set_option linter.unusedSimpArgs false
theorem ritem_few {l : List Tok} (hl : l.length ≤ 16384) {s : RdS} (hs : s.pos ≤ l.length) : (ritem l s).1.nodes ≤ 98313 := by
 have h1 := ritem_nodes (l := l) s
 have h2 := (ritem_steps l).le s hs
 omega
theorem ritems_few {l : List Tok} (hl : l.length ≤ 16384) : ∀ (k : Nat) (is : List It) (s : RdS), s.pos ≤ l.length → (∀ x ∈ is, x.nodes ≤ 98313) → ∀ x ∈ (ritems l k is s).1, x.nodes ≤ 98313
 | 0, is, s, _, h => h
 | k + 1, is, s, hs, h => by
  simp only [ritems]
  split
  ·exact h
  split
  ·exact h
  ·refine ritems_few hl k _ _ (rneed_le ((ritem_steps l).le _ hs)) fun x hx => ?_
   rcases List.mem_append.1 hx with hx | hx
   ·exact h x hx
   ·rw [List.mem_singleton.1 hx]; exact ritem_few hl hs
theorem rtext_few (s : ByteArray) : ∀ x ∈ (rtext s).1, x.nodes ≤ 98313 := by
 unfold rtext rsource
 simp only
 split
 ·simp
 ·exact ritems_few (rlex_len s) _ _ _ (Nat.zero_le _) (by simp)
theorem sumNodes_le {m : Nat} : ∀ {ls : List It}, (∀ it ∈ ls, it.nodes ≤ m) → sumNodes ls ≤ ls.length * m
 | [], _ => by simp [sumNodes]
 | it :: ls, h => by
  have h1 := h it (.head _)
  have h2 := sumNodes_le (fun x hx => h x (.tail _ hx))
  simp only [sumNodes, List.length_cons, Nat.succ_mul]; omega
theorem clsFrom_len (q : Ky) : ∀ (j : Nat) (l : List It), (clsFrom q j l).length ≤ l.length
 | _, [] => Nat.le_refl _
 | j, y :: ys => by
  have := clsFrom_len q (j + 1) ys
  simp only [clsFrom]
  split
  ·simp only [List.length_cons]; omega
  ·simp only [List.length_cons]; omega
theorem clsFrom_range (q : Ky) : ∀ (j : Nat) (l : List It), ∀ c ∈ clsFrom q j l, (j : Int) ≤ c ∧ c < (j : Int) + l.length
 | _, [], _, h => by simp [clsFrom] at h
 | j, y :: ys, c, h => by
  simp only [clsFrom] at h
  have ih := clsFrom_range q (j + 1) ys c
  simp only [List.length_cons]
  split at h
  ·rcases List.mem_cons.1 h with rfl | h
   ·omega
   ·have := ih h; omega
  ·have := ih h; omega
/-- The index of well named items, in one. -/
def tysOf (l : List It) : List It := l.filter fun it => decide (it.kind = 1)
def psOf (l : List It) : List It := l.filter fun it => decide (it.kind = 2)
def crsOf (l : List It) : List Cr := (tysOf l).flatMap fun it => ctsFrom it 0 it.ctors
def wellFrom (l : List It) : Nat → List It → Bool
 | _, [] => true
 | i, it :: rest => rwell l i it && wellFrom l (i + 1) rest
theorem rfrom_eq (l : List It) : ∀ (i : Nat) (rest : List It) (x : Ix), rfrom l i rest x = if wellFrom l i rest = true then some ⟨x.types ++ tysOf rest, x.ctors ++ crsOf rest, x.preds ++ (psOf rest).map (prOf l)⟩ else none
 | _, [], x => by simp [rfrom, wellFrom, tysOf, psOf, crsOf]
 | i, it :: rest, x => by
  have hwf : wellFrom l i (it :: rest) = (rwell l i it && wellFrom l (i + 1) rest) := rfl
  rw [rfrom]
  by_cases hw : rwell l i it = true
  ·have e : wellFrom l i (it :: rest) = wellFrom l (i + 1) rest := by rw [hwf, hw, Bool.true_and]
   rw [if_pos hw, rfrom_eq l (i + 1) rest, e]
   congr 2
   simp only [rstep]
   by_cases h1 : it.kind = 1
   ·have h2 : ¬ it.kind = 2 := by omega
    simp [h1, tysOf, psOf, crsOf]
   ·by_cases h2 : it.kind = 2
    ·simp [h2, tysOf, psOf, crsOf]
    ·simp [h1, h2, tysOf, psOf, crsOf]
  ·rw [if_neg hw]
   exact (if_neg (by rw [hwf, Bool.and_eq_true]; exact fun h => hw h.1)).symm
theorem rresolve_eq (l : List It) : rresolve l = if wellFrom l 0 l = true then some ⟨tysOf l, crsOf l, builtinsL ++ (psOf l).map (prOf l)⟩ else none := by
 rw [rresolve, rfrom_eq]; simp
/-- What an index of well named items is. -/
structure IxOf (l : List It) (x : Ix) : Prop where
 well : wellFrom l 0 l = true
 types : x.types = tysOf l
 ctors : x.ctors = crsOf l
 preds : x.preds = builtinsL ++ (psOf l).map (prOf l)
theorem rresolve_of {l : List It} {x : Ix} (h : rresolve l = some x) : IxOf l x := by
 rw [rresolve_eq] at h
 split at h
 ·rename_i hw; cases h; exact ⟨hw, rfl, rfl, rfl⟩
 ·cases h
theorem psOf_len (l : List It) : (psOf l).length ≤ l.length := List.length_filter_le _ _
theorem IxOf.few {l : List It} {x : Ix} (h : IxOf l x) : x.preds.length ≤ 7 + l.length := by
 have := psOf_len l
 rw [h.preds, List.length_append, List.length_map]
 show 7 + _ ≤ _
 omega
/-- What an index says of a predicate. -/
structure PrOk (l : List It) (p : Pr) : Prop where
 ar : 0 ≤ p.key.ar ∧ p.key.ar ≤ 32768
 few : p.clauses.length ≤ l.length
 range : ∀ c ∈ p.clauses, 0 ≤ c ∧ c < l.length
theorem keyOf_small {it : It} (h : it.small) : 0 ≤ (keyOf it).ar ∧ (keyOf it).ar ≤ 32768 := by
 have h1 := h.types.1; have h2 := h.ways; have h3 := h.args.1
 unfold keyOf
 repeat' split
 all_goals (refine ⟨Int.natCast_nonneg _, ?_⟩; simp only; omega)
theorem IxOf.ok {l : List It} {x : Ix} (h : IxOf l x) (hs : ∀ it ∈ l, it.small) : ∀ p ∈ x.preds, PrOk l p := by
 intro p hp
 rw [h.preds] at hp
 rcases List.mem_append.1 hp with hp | hp
 ·have hb : ∀ p ∈ builtinsL, (0 ≤ p.key.ar ∧ p.key.ar ≤ 32768) ∧ p.clauses = [] := by
   simp only [builtinsL, List.mem_cons, List.not_mem_nil, or_false]
   rintro p (rfl | rfl | rfl | rfl | rfl | rfl | rfl)
   all_goals exact ⟨by decide, rfl⟩
  have := hb p hp
  exact ⟨this.1, by rw [this.2]; simp, by rw [this.2]; simp⟩
 ·obtain ⟨it, hit, rfl⟩ := List.mem_map.1 hp
  have hm := (List.mem_filter.1 hit).1
  refine ⟨keyOf_small (hs it hm), clsFrom_len _ _ _, fun c hc => ?_⟩
  have := clsFrom_range _ _ _ c hc
  omega
theorem pfind_mem {L : List Pr} {q : Ky} {p : Pr} (h : pfind L q = some p) : p ∈ L ∧ p.key = q :=
 ⟨List.mem_of_find?_eq_some h, (Ky.eqb_iff _ _).1 (by simpa using List.find?_some h)⟩
/-- What Flatten asks, of a text's items and index. -/
theorem named_flat {s : ByteArray} {x : Ix} (h : (rnamed s).2 = some x) : (rnamed s).1 = (rtext s).1 ∧ IxOf (rtext s).1 x := by
 unfold rnamed at h ⊢
 split
 ·rename_i e; rw [if_pos e] at h; cases h
 ·rename_i e; rw [if_neg e] at h; exact ⟨rfl, rresolve_of h⟩
theorem sum_few {l : List It} (hl : l.length ≤ 512) (hf : ∀ x ∈ l, x.nodes ≤ 98313) {cs : List Int} (hc : cs.length ≤ l.length) : sumNodes (atIts l cs) ≤ 549755813888 := by
 refine Nat.le_trans (sumNodes_le (m := 98313) fun it hit => ?_) ?_
 ·obtain ⟨c, _, rfl⟩ := List.mem_map.1 hit
  rw [List.getD_eq_getElem?_getD]
  cases hg : l[c.toNat]? with
  | none => show (default : It).nodes ≤ _; decide
  | some y => exact hf y (List.mem_of_getElem? hg)
 ·have : (atIts l cs).length ≤ 512 := by simp only [atIts, List.length_map]; omega
  exact Nat.le_trans (Nat.mul_le_mul_right _ this) (by decide)
end Go.Aug

/- Without its last clause: what Flatten says of a predicate. -/
namespace Go.Aug
open Go.Proofs
set_option maxRecDepth 100000
set_option linter.unusedSimpArgs false
end Go.Aug

/- Flat goals: which numbers stand in a predicate's body, and how long its rows are. -/
namespace Go.Aug
open Go.Proofs
set_option maxRecDepth 100000
set_option linter.unusedSimpArgs false
mutual
def Fl.okG (A : Int → Prop) : Fl → Prop
 | .mk k x y i c p xs gs => (∀ v ∈ nown (.mk k x y i c p xs gs), A v) ∧ xs.length ≤ 32768 ∧ gs.length ≤ 1099511627776 ∧ Fl.okGs A gs
def Fl.okGs (A : Int → Prop) : List Fl → Prop
 | [] => True
 | g :: gs => g.okG A ∧ Fl.okGs A gs
end
mutual
theorem Fl.okG.mono {A B : Int → Prop} (h : ∀ v, A v → B v) : ∀ {f : Fl}, f.okG A → f.okG B
 | .mk _ _ _ _ _ _ _ _, ⟨h1, h2, h3, h4⟩ => ⟨fun v hv => h v (h1 v hv), h2, h3, Fl.okGs.mono h h4⟩
theorem Fl.okGs.mono {A B : Int → Prop} (h : ∀ v, A v → B v) : ∀ {gs : List Fl}, Fl.okGs A gs → Fl.okGs B gs
 | [], _ => trivial
 | _ :: _, ⟨h1, h2⟩ => ⟨h1.mono h, Fl.okGs.mono h h2⟩
end
theorem Fl.okGs_append {A : Int → Prop} : ∀ {xs ys : List Fl}, Fl.okGs A (xs ++ ys) ↔ Fl.okGs A xs ∧ Fl.okGs A ys
 | [], ys => by simp [Fl.okGs]
 | x :: xs, ys => by simp only [List.cons_append, Fl.okGs, Fl.okGs_append, and_assoc]
/-- A clause's numbers: those of arguments, and those from the clause's first to what is next. -/
def okI (ar st n : Nat) (v : Int) : Prop := ∃ k : Nat, v = (k : Int) ∧ (k < ar ∨ (st ≤ k ∧ k < n))
theorem okI.mono {ar st n m : Nat} (h : n ≤ m) (v : Int) : okI ar st n v → okI ar st m v
 | ⟨k, e, h'⟩ => ⟨k, e, h'.imp id fun ⟨a, b⟩ => ⟨a, Nat.lt_of_lt_of_le b h⟩⟩
structure NSok (ar st : Nat) (s : NS) : Prop where
 ge : st ≤ s.next
 nm : ∀ p ∈ s.names, okI ar st s.next (p.2 : Int)
theorem nfind_mem {n : ByteArray} {v : Nat} : ∀ {m : List (ByteArray × Nat)}, nfind m n = some v → ∃ p ∈ m, p.2 = v
 | [], h => by simp [nfind] at h
 | (a, w) :: m, h => by
  simp only [nfind] at h
  split at h
  ·cases h; exact ⟨_, .head _, rfl⟩
  ·obtain ⟨p, hp, e⟩ := nfind_mem h; exact ⟨p, .tail _ hp, e⟩
theorem nput_mem {n : ByteArray} {v : Nat} : ∀ {m : List (ByteArray × Nat)} {p : ByteArray × Nat}, p ∈ nput m n v → p ∈ m ∨ p.2 = v
 | [], p, h => by simp only [nput, List.mem_singleton] at h; exact .inr (by rw [h])
 | (a, w) :: m, p, h => by
  simp only [nput] at h
  split at h
  ·rcases List.mem_cons.1 h with rfl | h
   ·exact .inr rfl
   ·exact .inl (.tail _ h)
  ·rcases List.mem_cons.1 h with rfl | h
   ·exact .inl (.head _)
   ·exact (nput_mem h).imp (.tail _) id
theorem NSok.put {ar st : Nat} {s : NS} (h : NSok ar st s) {n : ByteArray} {v : Nat} (hv : okI ar st s.next (v : Int)) : NSok ar st ⟨s.next, nput s.names n v⟩ :=
 ⟨h.ge, fun p hp => (nput_mem hp).elim (h.nm p) fun e => by rw [e]; exact hv⟩
theorem NSok.fresh {ar st : Nat} {s : NS} (h : NSok ar st s) : okI ar st (nfresh s).2.next ((nfresh s).1 : Int) ∧ NSok ar st (nfresh s).2 :=
 ⟨⟨_, rfl, .inr ⟨h.ge, Nat.lt_succ_self _⟩⟩, ⟨Nat.le_succ_of_le h.ge, fun p hp => (h.nm p hp).mono (Nat.le_succ _)⟩⟩
theorem nnumber_in {ar st : Nat} {s : NS} (h : NSok ar st s) (n : ByteArray) : okI ar st (nnumber n s).2.next ((nnumber n s).1 : Int) ∧ NSok ar st (nnumber n s).2 := by
 unfold nnumber
 split
 ·exact h.fresh
 ·split
  ·rename_i v hv; obtain ⟨p, hp, rfl⟩ := nfind_mem hv; exact ⟨h.nm p hp, h⟩
  ·exact ⟨h.fresh.1, h.fresh.2.put h.fresh.1⟩
theorem nargs_in {ar st : Nat} : ∀ (ts : List Tm) {s : NS}, NSok ar st s → (∀ v ∈ (nargs ts s).1, okI ar st (nargs ts s).2.next (v : Int)) ∧ NSok ar st (nargs ts s).2
 | [], s, h => ⟨by simp [nargs], h⟩
 | .mk k n _ _ :: ts, s, h => by
  have key : ∀ p : Nat × NS, okI ar st p.2.next (p.1 : Int) ∧ NSok ar st p.2 → (∀ v ∈ p.1 :: (nargs ts p.2).1, okI ar st (nargs ts p.2).2.next (v : Int)) ∧ NSok ar st (nargs ts p.2).2 := fun p hp => by
   have ih := nargs_in ts hp.2
   refine ⟨fun v hv => ?_, ih.2⟩
   rcases List.mem_cons.1 hv with rfl | hv
   ·exact hp.1.mono (nargs_next ts p.2).1
   ·exact ih.1 v hv
  simp only [nargs]
  split
  ·exact key _ (nnumber_in h n)
  ·exact key _ h.fresh
theorem okG_leaf {A : Int → Prop} {k x y i : Int} {c p : Ky} {xs : List Int} (h : ∀ v ∈ nown (.mk k x y i c p xs []), A v) (hx : xs.length ≤ 32768) : (Fl.mk k x y i c p xs []).okG A := ⟨h, hx, Nat.zero_le _, trivial⟩
mutual
theorem nunify_in {ar st : Nat} (x : Nat) : ∀ (t : Tm) {s : NS}, t.small → NSok ar st s → okI ar st s.next (x : Int) → Fl.okGs (okI ar st (nunify x t s).2.next) (nunify x t s).1 ∧ NSok ar st (nunify x t s).2
 | .mk k n i ts, s, ht, h, hx => by
  simp only [nunify]
  split
  ·split
   ·exact ⟨trivial, h⟩
   ·split
    ·rename_i v hv
     obtain ⟨p, hp, rfl⟩ := nfind_mem hv
     refine ⟨⟨okG_leaf ?_ (Nat.zero_le _), trivial⟩, h⟩
     show ∀ v ∈ [(x : Int), (p.2 : Int)], _
     intro v hv
     rcases List.mem_cons.1 hv with rfl | hv
     ·exact hx
     ·rw [List.mem_singleton.1 hv]; exact h.nm p hp
    ·exact ⟨trivial, h.put hx⟩
  ·split
   ·refine ⟨⟨okG_leaf ?_ (Nat.zero_le _), trivial⟩, h⟩
    show ∀ v ∈ [(x : Int)], _
    intro v hv; rw [List.mem_singleton.1 hv]; exact hx
   ·have ha := nargs_in (ar := ar) (st := st) ts h
    have hs := nargs_next ts s
    have ih := nunifys_in (ar := ar) (st := st) (nargs ts s).1 ts ht.2 ha.2 ha.1
    have hs2 := (nunifys_size (nargs ts s).1 ts (nargs ts s).2).2.1
    refine ⟨⟨okG_leaf ?_ ?_, ih.1⟩, ih.2⟩
    ·show ∀ v ∈ (x : Int) :: (nargs ts s).1.map Int.ofNat, _
     intro v hv
     rcases List.mem_cons.1 hv with rfl | hv
     ·exact hx.mono (Nat.le_trans hs.1 hs2)
     ·obtain ⟨u, hu, rfl⟩ := List.mem_map.1 hv
      exact (ha.1 u hu).mono hs2
    ·rw [List.length_map, nargs_len]; exact ht.1
theorem nunifys_in {ar st : Nat} : ∀ (vs : List Nat) (ts : List Tm) {s : NS}, Tm.smalls ts → NSok ar st s → (∀ v ∈ vs, okI ar st s.next (v : Int)) → Fl.okGs (okI ar st (nunifys vs ts s).2.next) (nunifys vs ts s).1 ∧ NSok ar st (nunifys vs ts s).2
 | a :: vs, .mk k n i ts :: rest, s, ht, h, hv => by
  simp only [nunifys]
  split
  ·exact nunifys_in vs rest ht.2 h fun v h' => hv v (.tail _ h')
  ·have h1 := nunify_in (ar := ar) (st := st) a (.mk k n i ts) ht.1 h (hv a (.head _))
   have hs := nunify_size a (.mk k n i ts) s
   have h2 := nunifys_in (ar := ar) (st := st) vs rest ht.2 h1.2 fun v h' => (hv v (.tail _ h')).mono hs.2.1
   have hs2 := nunifys_size vs rest (nunify a (.mk k n i ts) s).2
   exact ⟨Fl.okGs_append.2 ⟨Fl.okGs.mono (okI.mono hs2.2.1) h1.1, h2.1⟩, h2.2⟩
 | [], ts, s, _, h, _ => by simp only [nunifys]; exact ⟨trivial, h⟩
 | a :: vs, [], s, _, h, _ => by simp only [nunifys]; exact ⟨trivial, h⟩
end
theorem nplace_in {ar st : Nat} (t : Tm) {s : NS} (ht : t.small) (h : NSok ar st s) : okI ar st (nplace t s).2.2.next ((nplace t s).1 : Int) ∧ Fl.okGs (okI ar st (nplace t s).2.2.next) (nplace t s).2.1 ∧ NSok ar st (nplace t s).2.2 := by
 unfold nplace
 split
 ·have := nnumber_in h t.name; exact ⟨this.1, trivial, this.2⟩
 ·have := nunify_in (ar := ar) (st := st) s.next t ht h.fresh.2 h.fresh.1
  exact ⟨h.fresh.1.mono (nunify_size s.next t (nfresh s).2).2.1, this.1, this.2⟩
theorem nequal_in {ar st : Nat} (a b : Tm) {s : NS} (ha : a.small) (hb : b.small) (h : NSok ar st s) : Fl.okGs (okI ar st (nequal a b s).2.next) (nequal a b s).1 ∧ NSok ar st (nequal a b s).2 := by
 unfold nequal
 split
 ·split
  ·exact ⟨trivial, h⟩
  ·have h1 := nnumber_in h a.name
   have h2 := nnumber_in h1.2 b.name
   refine ⟨⟨okG_leaf ?_ (Nat.zero_le _), trivial⟩, h2.2⟩
   show ∀ v ∈ [((nnumber a.name s).1 : Int), ((nnumber b.name (nnumber a.name s).2).1 : Int)], _
   intro v hv
   rcases List.mem_cons.1 hv with rfl | hv
   ·exact h1.1.mono (nnumber_next _ _).1
   ·rw [List.mem_singleton.1 hv]; exact h2.1
 ·split
  ·have h1 := nnumber_in h a.name; exact nunify_in _ b hb h1.2 h1.1
  ·split
   ·have h1 := nnumber_in h b.name; exact nunify_in _ a ha h1.2 h1.1
   ·have h1 := nunify_in (ar := ar) (st := st) s.next a ha h.fresh.2 h.fresh.1
    have hs1 := nunify_size s.next a (nfresh s).2
    have h2 := nunify_in (ar := ar) (st := st) s.next b hb h1.2 (h.fresh.1.mono hs1.2.1)
    have hs2 := nunify_size s.next b (nunify s.next a (nfresh s).2).2
    exact ⟨Fl.okGs_append.2 ⟨Fl.okGs.mono (okI.mono hs2.2.1) h1.1, h2.1⟩, h2.2⟩
theorem nplaces_in {ar st : Nat} : ∀ (ts : List Tm) {s : NS}, Tm.smalls ts → NSok ar st s → (∀ v ∈ (nplaces ts s).1, okI ar st (nplaces ts s).2.2.next (v : Int)) ∧ Fl.okGs (okI ar st (nplaces ts s).2.2.next) (nplaces ts s).2.1 ∧ NSok ar st (nplaces ts s).2.2
 | [], s, _, h => ⟨by simp [nplaces], trivial, h⟩
 | t :: ts, s, ht, h => by
  have h1 := nplace_in t ht.1 h
  have h2 := nplaces_in ts ht.2 h1.2.2
  have hs := nplaces_size ts (nplace t s).2.2
  simp only [nplaces]
  refine ⟨fun v hv => ?_, Fl.okGs_append.2 ⟨Fl.okGs.mono (okI.mono hs.2.1) h1.2.1, h2.2.1⟩, h2.2.2⟩
  rcases List.mem_cons.1 hv with rfl | hv
  ·exact h1.1.mono hs.2.1
  ·exact h2.1 v hv
theorem nwhole_in {A : Int → Prop} : ∀ {gs : List Fl}, gs.length ≤ 1099511627776 → Fl.okGs A gs → (nwhole gs).okG A
 | [], _, _ => okG_leaf (by show ∀ v ∈ ([] : List Int), _; simp) (Nat.zero_le _)
 | [_], _, h => h.1
 | _ :: _ :: _, hl, h => ⟨by show ∀ v ∈ ([] : List Int), _; simp, Nat.zero_le _, hl, h⟩
mutual
theorem ngoal_in {ar st : Nat} : ∀ (g : Gl) {s : NS}, g.small → g.nodes ≤ 1099511627776 → NSok ar st s → Fl.okGs (okI ar st (ngoal g s).2.next) (ngoal g s).1 ∧ NSok ar st (ngoal g s).2
 | .mk k a b n xs gs, s, hg, hn, h => by
  obtain ⟨ha, hb, hxl, hxs, hgl, hgs⟩ := hg
  have hw : Gl.nodess gs ≤ 1099511627776 := by simp only [Gl.nodes] at hn; omega
  have row : ∀ (kk : Int) (x : Int) (s1 : NS), kk ≠ 3 → kk ≠ 5 → kk ≠ 6 → (∀ v ∈ nown (fRow kk x []), okI ar st (nwholes gs s1).2.next v) → NSok ar st s1 → (fRow kk x (nwholes gs s1).1).okG (okI ar st (nwholes gs s1).2.next) ∧ NSok ar st (nwholes gs s1).2 := fun kk x s1 _ _ _ hx h1 => by
   have h2 := nwholes_in (ar := ar) (st := st) gs hgs hw h1
   exact ⟨⟨hx, Nat.zero_le _, by rw [nwholes_len]; omega, h2.1⟩, h2.2⟩
  unfold ngoal
  split
  ·exact ⟨⟨okG_leaf (by show ∀ v ∈ ([] : List Int), _; simp) (Nat.zero_le _), trivial⟩, h⟩
  split
  ·exact nequal_in a b ha hb h
  split
  ·have h1 := nplaces_in (ar := ar) (st := st) xs hxs h
   refine ⟨Fl.okGs_append.2 ⟨h1.2.1, okG_leaf ?_ ?_, trivial⟩, h1.2.2⟩
   ·show ∀ v ∈ (nplaces xs s).1.map Int.ofNat, _
    intro v hv; obtain ⟨u, hu, rfl⟩ := List.mem_map.1 hv; exact h1.1 u hu
   ·rw [List.length_map, nplaces_len]; exact hxl
  split
  ·have h1 := nplace_in (ar := ar) (st := st) a ha h
   refine ⟨Fl.okGs_append.2 ⟨h1.2.1, okG_leaf ?_ (Nat.zero_le _), trivial⟩, h1.2.2⟩
   show ∀ v ∈ [((nplace a s).1 : Int)], _
   intro v hv; rw [List.mem_singleton.1 hv]; exact h1.1
  split
  ·exact ngoals_in gs hgs hw h
  split
  ·have := row 8 0 s (by decide) (by decide) (by decide) (by show ∀ v ∈ ([] : List Int), _; simp) h; exact ⟨⟨this.1, trivial⟩, this.2⟩
  split
  ·have := row 9 0 s (by decide) (by decide) (by decide) (by show ∀ v ∈ ([] : List Int), _; simp) h; exact ⟨⟨this.1, trivial⟩, this.2⟩
  split
  ·have h1 := nnumber_in h n
   have hs := nwholes_size gs (nnumber n s).2
   have := row 11 ((nnumber n s).1 : Int) (nnumber n s).2 (by decide) (by decide) (by decide) (by
    show ∀ v ∈ [((nnumber n s).1 : Int)], _
    intro v hv; rw [List.mem_singleton.1 hv]; exact h1.1.mono hs.1) h1.2
   exact ⟨⟨this.1, trivial⟩, this.2⟩
  ·exact ⟨trivial, h⟩
theorem ngoals_in {ar st : Nat} : ∀ (gs : List Gl) {s : NS}, Gl.smalls gs → Gl.nodess gs ≤ 1099511627776 → NSok ar st s → Fl.okGs (okI ar st (ngoals gs s).2.next) (ngoals gs s).1 ∧ NSok ar st (ngoals gs s).2
 | [], s, _, _, h => ⟨trivial, h⟩
 | g :: gs, s, hg, hn, h => by
  simp only [Gl.nodess] at hn
  have h1 := ngoal_in (ar := ar) (st := st) g hg.1 (by omega) h
  have h2 := ngoals_in (ar := ar) (st := st) gs hg.2 (by omega) h1.2
  have hs := ngoals_size gs (ngoal g s).2
  simp only [ngoals]
  exact ⟨Fl.okGs_append.2 ⟨Fl.okGs.mono (okI.mono hs.2.1) h1.1, h2.1⟩, h2.2⟩
theorem nwholes_in {ar st : Nat} : ∀ (gs : List Gl) {s : NS}, Gl.smalls gs → Gl.nodess gs ≤ 1099511627776 → NSok ar st s → Fl.okGs (okI ar st (nwholes gs s).2.next) (nwholes gs s).1 ∧ NSok ar st (nwholes gs s).2
 | [], s, _, _, h => ⟨trivial, h⟩
 | g :: gs, s, hg, hn, h => by
  simp only [Gl.nodess] at hn
  have h1 := ngoal_in (ar := ar) (st := st) g hg.1 (by omega) h
  have hz := ngoal_size g s
  have h2 := nwholes_in (ar := ar) (st := st) gs hg.2 (by omega) h1.2
  have hs := nwholes_size gs (ngoal g s).2
  simp only [nwholes]
  exact ⟨⟨Fl.okG.mono (okI.mono hs.1) (nwhole_in (by omega) h1.1), h2.1⟩, h2.2⟩
end
theorem nheads_in {ar st : Nat} : ∀ (i : Nat) (ts : List Tm) {s : NS}, Tm.smalls ts → i + ts.length ≤ ar → NSok ar st s → Fl.okGs (okI ar st (nheads i ts s).2.next) (nheads i ts s).1 ∧ NSok ar st (nheads i ts s).2
 | _, [], s, _, _, h => ⟨trivial, h⟩
 | i, t :: ts, s, ht, hi, h => by
  simp only [List.length_cons] at hi
  have h1 := nunify_in (ar := ar) (st := st) i t ht.1 h ⟨i, rfl, .inl (by omega)⟩
  have h2 := nheads_in (ar := ar) (st := st) (i + 1) ts ht.2 (by omega) h1.2
  have hs := nheads_size (i + 1) ts (nunify i t s).2
  simp only [nheads]
  exact ⟨Fl.okGs_append.2 ⟨Fl.okGs.mono (okI.mono hs.2.1) h1.1, h2.1⟩, h2.2⟩
theorem nclause_in {ar n : Nat} {it : It} (hs : it.small) (ha : it.args.length ≤ ar) (hn : it.nodes ≤ 549755813888) : (nclause it n).1.okG (okI ar n (nclause it n).2) := by
 have hN := hn
 simp only [It.nodes] at hN
 have h1 := nheads_in (ar := ar) (st := n) 0 it.args (s := ⟨n, []⟩) hs.args.2 (by omega) ⟨Nat.le_refl _, by simp⟩
 have h2 := ngoal_in (ar := ar) (st := n) it.body hs.body (by omega) h1.2
 have z1 := nheads_size 0 it.args ⟨n, []⟩
 have z2 := ngoal_size it.body (nheads 0 it.args ⟨n, []⟩).2
 exact nwhole_in (by rw [List.length_append]; omega) (Fl.okGs_append.2 ⟨Fl.okGs.mono (okI.mono z2.2.1) h1.1, h2.1⟩)
/-- Each clause's numbers are its own, or arguments. -/
theorem nclauses_in {ar : Nat} : ∀ {ls : List It} {n : Nat}, (∀ it ∈ ls, it.small ∧ it.args.length ≤ ar ∧ it.nodes ≤ 549755813888) → ar ≤ n → Fl.okGs (okI (nclauses ls n).2 (nclauses ls n).2 (nclauses ls n).2) (nclauses ls n).1
 | [], _, _, _ => trivial
 | it :: ls, n, h, hn => by
  obtain ⟨h1, h2, h3⟩ := h it (.head _)
  have z := nclause_next it n
  have ih := nclauses_in (ar := ar) (ls := ls) (n := (nclause it n).2) (fun x hx => h x (.tail _ hx)) (by omega)
  have zs := nclauses_next ls (nclause it n).2
  simp only [nclauses]
  refine ⟨Fl.okG.mono (fun v ⟨k, e, hk⟩ => ⟨k, e, .inl ?_⟩) (nclause_in h1 h2 h3), ih⟩
  omega
end Go.Aug

/- Flat goals: the reference's comparison. -/
namespace Go.Aug
open Nat renaming reduceBEq → zA, reduceLT → zB, reduceAdd → zC, reduceSub → zD, reduceMul → zE, reduceLeDiff → zF
open Int renaming reduceLE → zG
open Go.Proofs
set_option maxRecDepth 100000
set_option linter.unusedSimpArgs false
attribute [local irreducible] hid andK letA onSome onVar onArr arrOnly onInt onBool onFunc onTup idxA ldV ldD addO appTo fillL slA srcK nilQ retW gif sgd sguard svc sops sdops sagain aopO aLoad aStore aBin aUn aConv aLen aIndexAddr aIndex aIndexAddrS aIndexS aSlice aAppend aBuild aBuildSlice aMakeSlice aField aFieldOf aCallOp deepK deepL frzM putE newK newV growV ACall roundQ thenQ inBlockQ sret cnd szs nilC onMap onRow aLookup aMapUpdate aMakeMap
attribute [local go_sem] Int.natCast_zero
noncomputable def eqB {α : Type} (a b : α) : Bool := @decide (a = b) (Classical.propDecidable _)
theorem eqB_self {α : Type} (a : α) : eqB a a = true := by unfold eqB; exact @decide_eq_true _ (Classical.propDecidable _) rfl
theorem eqB_iff {α : Type} {a b : α} : eqB a b = true ↔ a = b := by unfold eqB; exact @decide_eq_true_iff _ (Classical.propDecidable _)
theorem eqB_ne {α : Type} {a b : α} (h : a ≠ b) : eqB a b = false := by
 rw [Bool.eq_false_iff]; exact fun e => h (eqB_iff.1 e)
theorem list_differ {α : Type} {xs ys : List α} {k : Nat} (h : xs[k]? ≠ ys[k]?) : xs ≠ ys := fun e => h (by rw [e])
theorem drop_all {α : Type} {xs ys : List α} (hl : xs.length = ys.length) {k : Nat} (hk : xs.length ≤ k) (h : ∀ j < k, xs[j]? = ys[j]?) : xs = ys := by
 apply List.ext_getElem?
 intro j
 by_cases hj : j < k
 ·exact h j hj
 ·rw [List.getElem?_eq_none (by omega), List.getElem?_eq_none (by omega)]
theorem sameInts_ok {eb : EbG} (xs ys : List Int) (hx : xs.length ≤ 1048576) (hy : ys.length ≤ 1048576) (H : Heap) (K : A → Heap → Prop) (hK : K (.d (.bool (eqB xs ys))) H) :
  ACall Tryd.prog (seatV eb) 49 [.d (.slice (xs.map (.int .i64))), .d (.slice (ys.map (.int .i64)))] H K := by
 refine ACall.hp_start ?_
 refine ACall.by mixed fn49 (by simp) ?_
 conv in s49 => cbv
 refine svc_start ?_
 simp -dsimp (maxDischargeDepth := 9) only [go_sem, zA, zB, zC, zD, zE, zF, zG, gS]
 refine gif_split (fun g1 => ?_) (fun g1 => ?_)
 ·have e : xs.length ≠ ys.length := by have h : ¬ (xs.length : Int) = ys.length := (by simpa using g1); omega
  rw [eqB_ne (fun h => e (by rw [h]))] at hK
  simp -dsimp (maxDischargeDepth := 9) only [go_sem, zA, zB, zC, zD, zE, zF, zG, gS, g1]
  exact retW_is hK
 ·have e : xs.length = ys.length := by have h : (xs.length : Int) = ys.length := (by simpa using g1); omega
  simp -dsimp (maxDischargeDepth := 9) only [go_sem, zA, zB, zC, zD, zE, zF, zG, gS, g1]
  refine svc_loop (X := Nat) (fun y => [(0, .d (.slice (xs.map (.int .i64)))), (1, .d (.slice (ys.map (.int .i64)))), (12, .d (.int .i64 xs.length)), (13, .d (.int .i64 y))])
   (fun y G => G = H ∧ y ≤ xs.length ∧ ∀ j < y, xs[j]? = ys[j]?) (fun y => xs.length - y) 0 H ⟨rfl, Nat.zero_le _, by simp⟩ (by simp -dsimp (maxDischargeDepth := 9) only [go_sem, zA, zB, zC, zD, zE, zF, zG, gS]) (fun _ _ h => h) ?_
  rintro j G ⟨hG, hj, hs⟩
  subst hG
  simp -dsimp (maxDischargeDepth := 9) only [go_sem, zA, zB, zC, zD, zE, zF, zG, gS]
  refine gif_split (fun q1 => ?_) (fun q1 => ?_)
  ·have q1' : j < xs.length := by have := of_decide_eq_true q1; omega
   obtain ⟨x, hx1⟩ := list_at q1'
   obtain ⟨y, hy1⟩ := list_at (show j < ys.length by omega)
   have hw := wrapN (k := j) (by omega)
   simp -dsimp (maxDischargeDepth := 9) only [go_sem, zA, zB, zC, zD, zE, zF, zG, gS, q1, hx1, hy1]
   refine gif_split (fun q2 => ?_) (fun q2 => ?_)
   ·have e2 : x ≠ y := by simpa using q2
    rw [eqB_ne (list_differ (k := j) (by rw [hx1, hy1]; exact fun h => e2 (Option.some.inj h)))] at hK
    simp -dsimp (maxDischargeDepth := 9) only [go_sem, zA, zB, zC, zD, zE, zF, zG, gS, q2]
    exact retW_is hK
   ·have e2 : x = y := by simpa using q2
    simp -dsimp (maxDischargeDepth := 9) only [go_sem, zA, zB, zC, zD, zE, zF, zG, gS, q2, hw]
    refine roundQ_next (j + 1) G ⟨rfl, by omega, fun i hi => ?_⟩ (by omega) (by simp -dsimp (maxDischargeDepth := 9) only [go_sem, zA, zB, zC, zD, zE, zF, zG, gS]) (fun _ _ h => h)
    rcases Nat.lt_succ_iff_lt_or_eq.1 hi with h | rfl
    ·exact hs i h
    ·rw [hx1, hy1, e2]
  ·have q1' : xs.length ≤ j := by have := of_decide_eq_false q1; omega
   rw [drop_all e q1' hs, eqB_self] at hK
   simp -dsimp (maxDischargeDepth := 9) only [go_sem, zA, zB, zC, zD, zE, zF, zG, gS, q1]
   exact retW_is hK
mutual
def Fl.nodes : Fl → Nat
 | .mk _ _ _ _ _ _ _ gs => 1 + Fl.nodess gs
def Fl.nodess : List Fl → Nat
 | [] => 0
 | g :: gs => g.nodes + Fl.nodess gs
end
theorem Fl.nodess_mem {g : Fl} : ∀ {gs : List Fl}, g ∈ gs → g.nodes ≤ Fl.nodess gs
 | _ :: _, .head _ => by simp only [Fl.nodess]; omega
 | _ :: _, .tail _ h => by have := Fl.nodess_mem h; simp only [Fl.nodess]; omega
mutual
/-- The rows of a goal are not too long. -/
def Fl.fit : Fl → Prop
 | .mk _ _ _ _ _ _ xs gs => xs.length ≤ 1048576 ∧ gs.length ≤ 1099511627776 ∧ Fl.fits gs
def Fl.fits : List Fl → Prop
 | [] => True
 | g :: gs => g.fit ∧ Fl.fits gs
end
theorem Fl.fits_mem : ∀ {gs : List Fl}, Fl.fits gs → ∀ g ∈ gs, g.fit
 | _ :: _, h, _, .head _ => h.1
 | _ :: _, h, t, .tail _ ht => Fl.fits_mem h.2 t ht
mutual
theorem Fl.okG.fit {A : Int → Prop} : ∀ {f : Fl}, f.okG A → f.fit
 | .mk _ _ _ _ _ _ _ _, ⟨_, h2, h3, h4⟩ => ⟨Nat.le_trans h2 (by decide), h3, Fl.okGs.fit h4⟩
theorem Fl.okGs.fit {A : Int → Prop} : ∀ {gs : List Fl}, Fl.okGs A gs → Fl.fits gs
 | [], _ => trivial
 | _ :: _, ⟨h1, h2⟩ => ⟨h1.fit, h2.fit⟩
end
set_option maxHeartbeats 8000000 in
theorem same05_ok {eb : EbG} : ∀ (m : Nat) (f g : Fl), f.nodes ≤ m → f.fit → g.fit → ∀ (H : Heap) (K : A → Heap → Prop), K (.d (.bool (eqB f g))) H → ACall Tryd.prog (seatV eb) 16 [.d f.d, .d g.d] H K
 | 0, .mk k x y i c p xs gs, g, hm, _, _, _, _, _ => by simp only [Fl.nodes] at hm; omega
 | m + 1, .mk k x y i ⟨cn, ca⟩ ⟨pn, pa⟩ xs gs, .mk k' x' y' i' ⟨cn', ca'⟩ ⟨pn', pa'⟩ xs' gs', hm, hf, hg, H, K, hK => by
  have hinj : Fl.mk k x y i ⟨cn, ca⟩ ⟨pn, pa⟩ xs gs = Fl.mk k' x' y' i' ⟨cn', ca'⟩ ⟨pn', pa'⟩ xs' gs' → k = k' ∧ x = x' ∧ y = y' ∧ i = i' ∧ (cn = cn' ∧ ca = ca') ∧ (pn = pn' ∧ pa = pa') ∧ xs = xs' ∧ gs = gs' := fun h => by simpa only [Fl.mk.injEq, Ky.mk.injEq] using h
  simp only [Fl.nodes] at hm
  obtain ⟨hx, hgl, hgs⟩ := hf
  obtain ⟨hx', hgl', hgs'⟩ := hg
  refine ACall.hp_start ?_
  refine ACall.by mixed fn16 (by simp) ?_
  conv in s16 => cbv
  refine svc_start ?_
  simp -dsimp (maxDischargeDepth := 9) only [go_sem, zA, zB, zC, zD, zE, zF, zG, gS, Fl.d, Fl.cs, Fl.ds_map]
  refine newK_hp (fun b2 f2 => ?_)
  simp only [off_cons, off_nil] at f2
  simp -dsimp (maxDischargeDepth := 9) only [go_sem, zA, zB, zC, zD, zE, zF, zG, gS, f2]
  refine newK_hp (fun b3 f3 => ?_)
  simp only [off_cons, off_nil] at f3
  simp -dsimp (maxDischargeDepth := 9) only [go_sem, zA, zB, zC, zD, zE, zF, zG, gS, f2, f3]
  refine gif_split (fun g1 => ?_) (fun g1 => ?_)
  ·have e : k ≠ k' := by simpa using g1
   rw [eqB_ne (fun h => e (hinj h).1)] at hK
   simp -dsimp (maxDischargeDepth := 9) only [go_sem, zA, zB, zC, zD, zE, zF, zG, gS, g1, f2, f3]
   exact retW_drop (G := H) (leH_hp0 (by simp only [hpS, eq_self, implies_true, f2, f3])) (retW_is hK)
  have e1 : k = k' := by simpa using g1
  simp -dsimp (maxDischargeDepth := 9) only [go_sem, zA, zB, zC, zD, zE, zF, zG, gS, g1, f2, f3]
  refine gif_split (fun g2 => ?_) (fun g2 => ?_)
  ·have e : x ≠ x' := by simpa using g2
   rw [eqB_ne (fun h => e (hinj h).2.1)] at hK
   simp -dsimp (maxDischargeDepth := 9) only [go_sem, zA, zB, zC, zD, zE, zF, zG, gS, g1, g2, f2, f3]
   exact retW_drop (G := H) (leH_hp0 (by simp only [hpS, eq_self, implies_true, f2, f3])) (retW_is hK)
  have e2 : x = x' := by simpa using g2
  simp -dsimp (maxDischargeDepth := 9) only [go_sem, zA, zB, zC, zD, zE, zF, zG, gS, g1, g2, f2, f3]
  refine gif_split (fun g3 => ?_) (fun g3 => ?_)
  ·have e : y ≠ y' := by simpa using g3
   rw [eqB_ne (fun h => e (hinj h).2.2.1)] at hK
   simp -dsimp (maxDischargeDepth := 9) only [go_sem, zA, zB, zC, zD, zE, zF, zG, gS, g1, g2, g3, f2, f3]
   exact retW_drop (G := H) (leH_hp0 (by simp only [hpS, eq_self, implies_true, f2, f3])) (retW_is hK)
  have e3 : y = y' := by simpa using g3
  simp -dsimp (maxDischargeDepth := 9) only [go_sem, zA, zB, zC, zD, zE, zF, zG, gS, g1, g2, g3, f2, f3]
  refine gif_split (fun g4 => ?_) (fun g4 => ?_)
  ·have e : i ≠ i' := by simpa using g4
   rw [eqB_ne (fun h => e (hinj h).2.2.2.1)] at hK
   simp -dsimp (maxDischargeDepth := 9) only [go_sem, zA, zB, zC, zD, zE, zF, zG, gS, g1, g2, g3, g4, f2, f3]
   exact retW_drop (G := H) (leH_hp0 (by simp only [hpS, eq_self, implies_true, f2, f3])) (retW_is hK)
  have e4 : i = i' := by simpa using g4
  simp -dsimp (maxDischargeDepth := 9) only [go_sem, zA, zB, zC, zD, zE, zF, zG, gS, g1, g2, g3, g4, f2, f3]
  refine gif_split (fun g5 => ?_) (fun g5 => ?_)
  ·have e : ¬ (cn = cn' ∧ ca = ca') := by rintro ⟨rfl, rfl⟩; simp at g5
   rw [eqB_ne (fun h => e (hinj h).2.2.2.2.1)] at hK
   simp -dsimp (maxDischargeDepth := 9) only [go_sem, zA, zB, zC, zD, zE, zF, zG, gS, g1, g2, g3, g4, g5, f2, f3]
   exact retW_drop (G := H) (leH_hp0 (by simp only [hpS, eq_self, implies_true, f2, f3])) (retW_is hK)
  have e5 : (cn = cn' ∧ ca = ca') := by simpa using g5
  simp -dsimp (maxDischargeDepth := 9) only [go_sem, zA, zB, zC, zD, zE, zF, zG, gS, g1, g2, g3, g4, g5, f2, f3]
  refine gif_split (fun g6 => ?_) (fun g6 => ?_)
  ·have e : ¬ (pn = pn' ∧ pa = pa') := by rintro ⟨rfl, rfl⟩; simp at g6
   rw [eqB_ne (fun h => e (hinj h).2.2.2.2.2.1)] at hK
   simp -dsimp (maxDischargeDepth := 9) only [go_sem, zA, zB, zC, zD, zE, zF, zG, gS, g1, g2, g3, g4, g5, g6, f2, f3]
   exact retW_drop (G := H) (leH_hp0 (by simp only [hpS, eq_self, implies_true, f2, f3])) (retW_is hK)
  have e6 : (pn = pn' ∧ pa = pa') := by simpa using g6
  simp -dsimp (maxDischargeDepth := 9) only [go_sem, zA, zB, zC, zD, zE, zF, zG, gS, g1, g2, g3, g4, g5, g6, f2, f3]
  refine sameInts_ok xs xs' hx hx' _ _ ?_
  simp -dsimp (maxDischargeDepth := 9) only [go_sem, zA, zB, zC, zD, zE, zF, zG, gS, g1, g2, g3, g4, g5, g6, f2, f3]
  refine gif_split (fun g7 => ?_) (fun g7 => ?_)
  ·have e : ¬ xs = xs' := fun h => by rw [h, eqB_self] at g7; simp at g7
   rw [eqB_ne (fun h => e (hinj h).2.2.2.2.2.2.1)] at hK
   simp -dsimp (maxDischargeDepth := 9) only [go_sem, zA, zB, zC, zD, zE, zF, zG, gS, g7, g1, g2, g3, g4, g5, g6, f2, f3]
   exact retW_drop (G := H) (leH_hp0 (by simp only [hpS, eq_self, implies_true, f2, f3])) (retW_is hK)
  have e7 : xs = xs' := eqB_iff.1 (by simpa using g7)
  simp -dsimp (maxDischargeDepth := 9) only [go_sem, zA, zB, zC, zD, zE, zF, zG, gS, g7, g1, g2, g3, g4, g5, g6, f2, f3]
  refine gif_split (fun g8 => ?_) (fun g8 => ?_)
  ·have e : ¬ gs = gs' := fun h => by rw [h] at g8; simp at g8
   rw [eqB_ne (fun h => e (hinj h).2.2.2.2.2.2.2)] at hK
   simp -dsimp (maxDischargeDepth := 9) only [go_sem, zA, zB, zC, zD, zE, zF, zG, gS, g8, g1, g2, g3, g4, g5, g6, f2, f3]
   exact retW_drop (G := H) (leH_hp0 (by simp only [hpS, eq_self, implies_true, f2, f3])) (retW_is hK)
  have e8 : gs.length = gs'.length := by have h : (gs.length : Int) = gs'.length := (by simpa using g8); omega
  simp -dsimp (maxDischargeDepth := 9) only [go_sem, zA, zB, zC, zD, zE, zF, zG, gS, g8, g1, g2, g3, g4, g5, g6, f2, f3]
  obtain ⟨rfl, rfl⟩ := e5
  obtain ⟨rfl, rfl⟩ := e6
  subst e1 e2 e3 e4 e7
  refine svc_loop (X := Nat) (fun j => [(2, .ref b2 0), (3, .ref b3 0), (65, .d (.int .i64 gs.length)), (66, .d (.int .i64 j))])
   (fun j G => G = hp H [(b2, .var [.d (.int .i64 k), .d (.int .i64 x), .d (.int .i64 y), .d (.int .i64 i), .d (.str cn), .d (.int .i64 ca), .d (.str pn), .d (.int .i64 pa), .d (.slice (xs.map (.int .i64))), .d (.slice (gs.map Fl.d))]), (b3, .var [.d (.int .i64 k), .d (.int .i64 x), .d (.int .i64 y), .d (.int .i64 i), .d (.str cn), .d (.int .i64 ca), .d (.str pn), .d (.int .i64 pa), .d (.slice (xs.map (.int .i64))), .d (.slice (gs'.map Fl.d))])] ∧ j ≤ gs.length ∧ ∀ u < j, gs[u]? = gs'[u]?) (fun j => gs.length - j) 0 _ ⟨rfl, Nat.zero_le _, by simp⟩ (by simp -dsimp (maxDischargeDepth := 9) only [go_sem, zA, zB, zC, zD, zE, zF, zG, gS]) (leH_hp (by simp only [hpS, eq_self, implies_true, f2, f3]) (by simp only [hpS, eq_self, implies_true, f2, f3])) ?_
  rintro j G ⟨hG, hj, hs⟩
  subst hG
  simp -dsimp (maxDischargeDepth := 9) only [go_sem, zA, zB, zC, zD, zE, zF, zG, gS]
  refine gif_split (fun q1 => ?_) (fun q1 => ?_)
  ·have q1' : j < gs.length := by have := of_decide_eq_true q1; omega
   obtain ⟨u, hx1⟩ := list_at q1'
   obtain ⟨v, hy1⟩ := list_at (show j < gs'.length by omega)
   have hw := wrapN (k := j) (by omega)
   have hmem := Fl.nodess_mem (List.mem_of_getElem? hx1)
   obtain ⟨uk, ux, uy, ui, ⟨ucn, uca⟩, ⟨upn, upa⟩, uxs, ugs⟩ := u
   obtain ⟨vk, vx, vy, vi, ⟨vcn, vca⟩, ⟨vpn, vpa⟩, vxs, vgs⟩ := v
   simp -dsimp (maxDischargeDepth := 9) only [go_sem, zA, zB, zC, zD, zE, zF, zG, gS, q1, hx1, hy1, f2, f3, Fl.d, Fl.cs]
   refine same05_ok m (.mk uk ux uy ui ⟨ucn, uca⟩ ⟨upn, upa⟩ uxs ugs) (.mk vk vx vy vi ⟨vcn, vca⟩ ⟨vpn, vpa⟩ vxs vgs) (by omega) (Fl.fits_mem hgs _ (List.mem_of_getElem? hx1)) (Fl.fits_mem hgs' _ (List.mem_of_getElem? hy1)) _ _ ?_
   simp -dsimp (maxDischargeDepth := 9) only [go_sem, zA, zB, zC, zD, zE, zF, zG, gS, f2, f3]
   refine gif_split (fun q2 => ?_) (fun q2 => ?_)
   ·have e2 : Fl.mk uk ux uy ui ⟨ucn, uca⟩ ⟨upn, upa⟩ uxs ugs ≠ Fl.mk vk vx vy vi ⟨vcn, vca⟩ ⟨vpn, vpa⟩ vxs vgs := fun h => by rw [h, eqB_self] at q2; simp at q2
    rw [eqB_ne (fun h => list_differ (k := j) (by rw [hx1, hy1]; exact fun h => e2 (Option.some.inj h)) (hinj h).2.2.2.2.2.2.2)] at hK
    simp -dsimp (maxDischargeDepth := 9) only [go_sem, zA, zB, zC, zD, zE, zF, zG, gS, q2, f2, f3]
    exact retW_drop (G := H) (leH_hp0 (by simp only [hpS, eq_self, implies_true, f2, f3])) (retW_is hK)
   ·have e2 := eqB_iff.1 (show eqB (Fl.mk uk ux uy ui ⟨ucn, uca⟩ ⟨upn, upa⟩ uxs ugs) (Fl.mk vk vx vy vi ⟨vcn, vca⟩ ⟨vpn, vpa⟩ vxs vgs) = true by simpa using q2)
    simp -dsimp (maxDischargeDepth := 9) only [go_sem, zA, zB, zC, zD, zE, zF, zG, gS, q2, hw, f2, f3]
    refine roundQ_next (j + 1) _ ⟨rfl, by omega, fun w hw => ?_⟩ (by omega) (by simp -dsimp (maxDischargeDepth := 9) only [go_sem, zA, zB, zC, zD, zE, zF, zG, gS]) (leH_hp (by simp only [hpS, eq_self, implies_true, f2, f3]) (by simp only [hpS, eq_self, implies_true, f2, f3]))
    rcases Nat.lt_succ_iff_lt_or_eq.1 hw with h | rfl
    ·exact hs w h
    ·rw [hx1, hy1, e2]
  ·have q1' : gs.length ≤ j := by have := of_decide_eq_false q1; omega
   have eg := drop_all e8 q1' hs
   subst eg
   rw [eqB_self] at hK
   simp -dsimp (maxDischargeDepth := 9) only [go_sem, zA, zB, zC, zD, zE, zF, zG, gS, q1, f2, f3]
   exact retW_drop (G := H) (leH_hp0 (by simp only [hpS, eq_self, implies_true, f2, f3])) (retW_is hK)
end Go.Aug

/- The Flat laws: their example. -/
namespace Go.Aug
open Nat renaming reduceBEq → zA, reduceLT → zB, reduceAdd → zC, reduceSub → zD, reduceMul → zE, reduceLeDiff → zF
open Int renaming reduceLE → zG
open Go.Proofs
set_option maxRecDepth 100000
set_option linter.unusedSimpArgs false
attribute [local irreducible] hid andK letA onSome onVar onArr arrOnly onInt onBool onFunc onTup idxA ldV ldD addO appTo fillL slA srcK nilQ retW gif sgd sguard svc sops sdops sagain aopO aLoad aStore aBin aUn aConv aLen aIndexAddr aIndex aIndexAddrS aIndexS aSlice aAppend aBuild aBuildSlice aMakeSlice aField aFieldOf aCallOp deepK deepL frzM putE newK newV growV ACall roundQ thenQ inBlockQ sret cnd szs nilC onMap onRow aLookup aMapUpdate aMakeMap
attribute [local go_sem] Int.natCast_zero
/-- Flatten, of a text's items and index. -/
theorem flatten_named {eb : EbG} [ho1 : On eb 1] [ho2 : On eb 2] {s : ByteArray} {x : Ix} (h : (rnamed s).2 = some x) (q : Ky) (hq : 0 ≤ q.ar) (hqa : q.ar ≤ 1048576) (H : Heap) (K : A → Heap → Prop)
  (hK : K (.tup [.d (nflat (rtext s).1 x q).2.d, .d (errD (nflat (rtext s).1 x q).1)]) H) :
  ACall Tryd.prog (seatV eb) 15 [.d (.slice ((rtext s).1.map It.d)), .d x.d, .d q.d] H K := by
 have hx := (named_flat h).2
 have hlen := rtext_len s
 have hsm := (rtext_srcs s).small
 refine flatten_ok (rtext s).1 (rtext_srcs s) x (by have := hx.few; omega) q (fun _ _ => ⟨hq, hqa⟩) (fun p hp => ?_) H K hK
 have hok := hx.ok hsm p (pfind_mem hp).1
 refine ⟨by have := hok.few; omega, hok.range, sum_few hlen (rtext_few s) hok.few⟩
def aTxt : ByteArray := ⟨#[112, 114, 101, 100, 32, 112, 40, 105, 110, 116, 44, 32, 105, 110, 116, 41, 46, 32, 109, 111, 100, 101, 32, 112, 40, 105, 110, 44, 32, 105, 110, 41, 32, 105, 115, 32, 115, 101, 109, 105, 100, 101, 116, 46, 32, 112, 40, 88, 44, 32, 88, 41, 46]⟩
def aIx : Ix := (rnamed aTxt).2.getD ⟨[], [], []⟩
theorem aTxt_is : (rnamed aTxt).2.isSome = true := by kernel_rfl
theorem aIx_is : (rnamed aTxt).2 = some aIx := by
 obtain ⟨x, hx⟩ := Option.isSome_iff_exists.1 aTxt_is
 rw [aIx, hx]; rfl
theorem aFlat_is : nflat (rtext aTxt).1 aIx ⟨⟨#[112]⟩, 2⟩ = (0, ⟨⟨⟨#[112]⟩, 2⟩, 2, fSame 1 0⟩) := by kernel_rfl
set_option maxHeartbeats 2000000 in
theorem alive13_ok {eb : EbG} [ho1 : On eb 1] [ho2 : On eb 2] (H : Heap) (K : A → Heap → Prop) (hK : K (.d (.bool true)) H) : ACall Tryd.prog (seatV eb) 13 [] H K := by
 refine ACall.hp_start ?_
 refine ACall.by mixed fn13 (by simp) ?_
 conv in s13 => cbv
 refine svc_start ?_
 simp -dsimp (maxDischargeDepth := 9) only [go_sem, zA, zB, zC, zD, zE, zF, zG, gS]
 refine named_ok _ aTxt _ ?_
 rw [(named_flat aIx_is).1, aIx_is]
 have hf := aFlat_is
 have hfl := fun H => flatten_named (eb := eb) aIx_is ⟨⟨#[112]⟩, 2⟩ (by decide) (by decide) H
 rw [hf] at hfl
 generalize aIx = x at hfl
 obtain ⟨xts, xcs, ps⟩ := x
 simp -dsimp (maxDischargeDepth := 9) only [go_sem, zA, zB, zC, zD, zE, zF, zG, gS, ixD, Option.getD_some, Option.isSome_some, Ix.d, Ix.cs]
 refine newK_hp (fun b2 f2 => ?_)
 simp only [off_cons, off_nil] at f2
 simp -dsimp (maxDischargeDepth := 9) only [go_sem, zA, zB, zC, zD, zE, zF, zG, gS, f2]
 refine hfl _ _ ?_
 have he : errD 0 = .raw .nilIface := rfl
 simp -dsimp (maxDischargeDepth := 9) only [go_sem, zA, zB, zC, zD, zE, zF, zG, gS, f2, FP.d, FP.cs, fSame, Fl.cs, Fl.ds, List.map_nil, List.cons_append, List.nil_append, he, ky0]
 refine newK_hp (fun b4 f4 => ?_)
 simp only [off_cons, off_nil] at f4
 simp -dsimp (maxDischargeDepth := 9) only [go_sem, zA, zB, zC, zD, zE, zF, zG, gS, f2, f4]
 refine andK_split rfl ?_
 simp -dsimp (maxDischargeDepth := 9) only [go_sem, zA, zB, zC, zD, zE, zF, zG, gS, f2, f4]
 exact retW_drop (G := H) (leH_hp0 (by simp only [hpS, eq_self, implies_true, f2, f4])) (retW_is hK)
end Go.Aug

/- Flatten of a text's index, and of one with fewer clauses; the numbers of its bodies. -/
namespace Go.Aug
open Go.Proofs
set_option maxRecDepth 100000
set_option linter.unusedSimpArgs false
theorem clsFrom_at (q : Ky) : ∀ (j : Nat) (l : List It), ∀ c ∈ clsFrom q j l, ∃ k it, c = ((j + k : Nat) : Int) ∧ l[k]? = some it ∧ isOf 4 q it = true
 | _, [], _, h => by simp [clsFrom] at h
 | j, y :: ys, c, h => by
  have key : c ∈ clsFrom q (j + 1) ys → ∃ k it, c = ((j + k : Nat) : Int) ∧ (y :: ys)[k]? = some it ∧ isOf 4 q it = true := fun h => by
   obtain ⟨k, it, e, h1, h2⟩ := clsFrom_at q (j + 1) ys c h
   exact ⟨k + 1, it, by rw [e]; congr 1; omega, by simpa using h1, h2⟩
  simp only [clsFrom] at h
  split at h
  ·rename_i hy
   rcases List.mem_cons.1 h with rfl | h
   ·exact ⟨0, y, rfl, rfl, hy⟩
   ·exact key h
  ·exact key h
/-- What an index says of a predicate, of the items. -/
structure PrAt (l : List It) (p : Pr) : Prop extends PrOk l p where
 cl : ∀ c ∈ p.clauses, ∃ it, l[c.toNat]? = some it ∧ it.kind = 4 ∧ (it.args.length : Int) = p.key.ar
theorem IxOf.at {l : List It} {x : Ix} (h : IxOf l x) (hs : ∀ it ∈ l, it.small) : ∀ p ∈ x.preds, PrAt l p := by
 intro p hp
 refine ⟨h.ok hs p hp, fun c hc => ?_⟩
 rw [h.preds] at hp
 rcases List.mem_append.1 hp with hp | hp
 ·have hb : ∀ p ∈ builtinsL, p.clauses = [] := by
   simp only [builtinsL, List.mem_cons, List.not_mem_nil, or_false]
   rintro p (rfl | rfl | rfl | rfl | rfl | rfl | rfl)
   all_goals rfl
  rw [hb p hp] at hc; simp at hc
 ·obtain ⟨it, hit, rfl⟩ := List.mem_map.1 hp
  obtain ⟨k, y, rfl, h1, h2⟩ := clsFrom_at _ _ _ c hc
  have h2' : y.kind = 4 ∧ keyOf y = keyOf it := by simpa [isOf, Ky.eqb_iff] using h2
  refine ⟨y, by simpa using h1, h2'.1, ?_⟩
  show _ = (keyOf it).ar
  rw [← h2'.2, keyOf, if_neg (by omega), if_neg (by omega)]
/-- Items as a text has them. -/
structure Txt (l : List It) : Prop where
 few : l.length ≤ 512
 small : ∀ it ∈ l, it.small
 nodes : ∀ it ∈ l, it.nodes ≤ 98313
theorem rtext_txt (s : ByteArray) : Txt (rtext s).1 := ⟨rtext_len s, (rtext_srcs s).small, rtext_few s⟩
/-- The body's numbers. -/
theorem nflat_in {l : List It} (hl : Txt l) {x : Ix} (hp : ∀ p ∈ x.preds, PrAt l p) {q : Ky} (h0 : (nflat l x q).1 = 0) :
  (nflat l x q).2.key = q ∧ q.ar ≤ (nflat l x q).2.vars ∧ (nflat l x q).2.vars ≤ 200 ∧ (nflat l x q).2.body.okG (fun v => ∃ k : Nat, v = (k : Int) ∧ (k : Int) < (nflat l x q).2.vars) := by
 unfold nflat at h0 ⊢
 cases hf : pfind x.preds q with
 | none => rw [hf] at h0; simp at h0
 | some p =>
  have hok := hp p (pfind_mem hf).1
  have hk := (pfind_mem hf).2
  rw [hf] at h0
  simp only at h0 ⊢
  by_cases hb : isBuiltin q = true
  ·rw [if_pos hb] at h0; cases h0
  ·rw [if_neg hb] at h0 ⊢
   by_cases hg : 200 < (nclauses (atIts l p.clauses) q.ar.toNat).2
   ·rw [if_pos hg] at h0; cases h0
   ·rw [if_neg hg]
    have har := hok.ar
    rw [hk] at har
    have hn := nclauses_next (atIts l p.clauses) q.ar.toNat
    have hin : Fl.okGs (okI (nclauses (atIts l p.clauses) q.ar.toNat).2 (nclauses (atIts l p.clauses) q.ar.toNat).2 (nclauses (atIts l p.clauses) q.ar.toNat).2) (nclauses (atIts l p.clauses) q.ar.toNat).1 := by
     refine nclauses_in (ar := q.ar.toNat) (fun it hit => ?_) (Nat.le_refl _)
     obtain ⟨c, hc, rfl⟩ := List.mem_map.1 hit
     obtain ⟨y, h1, _, h2⟩ := hok.cl c hc
     rw [List.getD_eq_getElem?_getD, h1, Option.getD_some]
     have hm := List.mem_of_getElem? h1
     rw [hk] at h2
     exact ⟨hl.small y hm, by omega, Nat.le_trans (hl.nodes y hm) (by decide)⟩
    have hnl := nclauses_len (atIts l p.clauses) q.ar.toNat
    have hll : (atIts l p.clauses).length ≤ 512 := by have := hok.few; have := hl.few; simp only [atIts, List.length_map]; omega
    generalize nclauses (atIts l p.clauses) q.ar.toNat = z at hn hin hnl hg ⊢
    obtain ⟨gs, n⟩ := z
    simp only at hn hin hnl hg ⊢
    refine ⟨trivial, by omega, by omega, ?_⟩
    have hA : Fl.okGs (fun v => ∃ k : Nat, v = (k : Int) ∧ (k : Int) < (n : Int)) gs := Fl.okGs.mono (fun v ⟨k, e, h⟩ => ⟨k, e, by omega⟩) hin
    rcases gs with _ | ⟨a, _ | ⟨b, gs⟩⟩
    ·exact okG_leaf (by show ∀ v ∈ ([] : List Int), _; simp) (Nat.zero_le _)
    ·exact hA.1
    ·exact ⟨by show ∀ v ∈ ([] : List Int), _; simp, Nat.zero_le _, by omega, hA⟩
end Go.Aug

/- The law FlatClauses: the walk. -/
namespace Go.Aug
open Go.Proofs
set_option maxRecDepth 100000
set_option linter.unusedSimpArgs false
attribute [local irreducible] hid andK letA onSome onVar onArr arrOnly onInt onBool onFunc onTup idxA ldV ldD addO appTo fillL slA srcK nilQ retW gif sgd sguard svc sops sdops sagain aopO aLoad aStore aBin aUn aConv aLen aIndexAddr aIndex aIndexAddrS aIndexS aSlice aAppend aBuild aBuildSlice aMakeSlice aField aFieldOf aCallOp deepK deepL frzM putE newK newV growV ACall roundQ thenQ inBlockQ sret cnd szs nilC onMap onRow aLookup aMapUpdate aMakeMap
attribute [local go_sem] Int.natCast_zero
end Go.Aug
