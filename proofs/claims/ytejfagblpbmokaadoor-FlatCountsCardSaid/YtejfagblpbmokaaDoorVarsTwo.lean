/- The contracts of flat.Vars and of the laws that range over it; conditions stand in each contract. -/
import Derived.Test.YtejfagblpbmokaaDoorFlatOne
import Derived.Test.YtejfagblpbmokaaDoorAugEight
import Derived.Test.YtejfagblpbmokaaDoorVarsOne
set_option linter.all false
set_option linter.unusedVariables false
set_option linter.unusedSimpArgs false
set_option linter.unusedSectionVars false

/- flat.Vars: each variable once. -/
namespace Go.Aug
open Go.Proofs
set_option maxRecDepth 100000
set_option linter.unusedSimpArgs false
attribute [local irreducible] hid andK letA onSome onVar onArr arrOnly onInt onBool onTup idxA ldV ldD addO appTo fillL slA srcK nilQ retW gif sgd sguard svc sops sdops sagain aopO aLoad aStore aBin aUn aConv aLen aIndexAddr aIndex aIndexAddrS aIndexS aSlice aAppend aBuild aBuildSlice aMakeSlice aField aFieldOf aCallOp deepK deepL frzM putE newK newV growV ACall roundQ thenQ inBlockQ sret cnd szs nilC onMap onRow aLookup aMapUpdate aMakeMap
attribute [local go_sem] Int.natCast_zero
def vStep (acc : List Int) (v : Int) : List Int := if v ∈ acc then acc else acc ++ [v]
mutual
def fVars : Fl → List Int → List Int
 | .mk k x y i c p xs gs, acc => fVarss gs ((nown (.mk k x y i c p xs gs)).foldl vStep acc)
def fVarss : List Fl → List Int → List Int
 | [], acc => acc
 | g :: gs, acc => fVarss gs (fVars g acc)
end
/-- Numbers below n, each once. -/
def numIn (n : Nat) (v : Int) : Prop := ∃ k : Nat, v = (k : Int) ∧ k < n
structure Nums (n : Nat) (l : List Int) : Prop where
 nd : l.Nodup
 mem : ∀ v ∈ l, numIn n v
theorem Nums.nil (n : Nat) : Nums n [] := ⟨.nil, fun _ h => by cases h⟩
theorem Nums.len : ∀ {n : Nat} {l : List Int}, Nums n l → l.length ≤ n
 | 0, l, h => by
  cases l with
  | nil => exact Nat.le_refl _
  | cons v l => obtain ⟨k, _, hk⟩ := h.mem v (.head _); omega
 | n + 1, l, h => by
  by_cases hm : (n : Int) ∈ l
  ·have h1 : Nums n (l.erase (n : Int)) := ⟨h.nd.erase _, fun v hv => by
    obtain ⟨h2, h3⟩ := (h.nd.mem_erase_iff).1 hv
    obtain ⟨k, rfl, hk⟩ := h.mem v h3
    exact ⟨k, rfl, by omega⟩⟩
   have := h1.len
   have h4 := List.length_erase_of_mem hm
   have : 0 < l.length := List.length_pos_of_mem hm
   omega
  ·have h1 : Nums n l := ⟨h.nd, fun v hv => by
    obtain ⟨k, rfl, hk⟩ := h.mem v hv
    exact ⟨k, rfl, by
     by_cases e : k = n
     ·rw [e] at hv; exact absurd hv hm
     ·omega⟩⟩
   exact Nat.le_succ_of_le h1.len
theorem Nums.step {n : Nat} {l : List Int} (h : Nums n l) {v : Int} (hv : numIn n v) : Nums n (vStep l v) := by
 unfold vStep
 split
 ·exact h
 ·rename_i hm
  refine ⟨List.nodup_append.2 ⟨h.nd, by simp, fun a ha b hb => ?_⟩, fun u hu => ?_⟩
  ·simp only [List.mem_singleton] at hb
   rintro rfl
   exact hm (hb ▸ ha)
  ·rcases List.mem_append.1 hu with hu | hu
   ·exact h.mem u hu
   ·simp only [List.mem_singleton] at hu; rw [hu]; exact hv
theorem Nums.steps {n : Nat} : ∀ {vs l : List Int}, Nums n l → (∀ v ∈ vs, numIn n v) → Nums n (vs.foldl vStep l)
 | [], _, h, _ => h
 | v :: vs, _, h, hv => Nums.steps (vs := vs) (h.step (hv v (.head _))) fun u hu => hv u (.tail _ hu)
mutual
theorem Nums.vars {n : Nat} : ∀ {f : Fl} {l : List Int}, Nums n l → f.okG (numIn n) → Nums n (fVars f l)
 | .mk _ _ _ _ _ _ _ gs, _, h, hf => Nums.varss (h.steps hf.1) hf.2.2.2
theorem Nums.varss {n : Nat} : ∀ {gs : List Fl} {l : List Int}, Nums n l → Fl.okGs (numIn n) gs → Nums n (fVarss gs l)
 | [], _, h, _ => h
 | _ :: gs, _, h, hf => Nums.varss (gs := gs) (Nums.vars h hf.1) hf.2
end
def enci (l : List Int) : List (D × D) := l.map fun v => (.int .i64 v, .bool true)
theorem mget_enci (v : Int) : ∀ l : List Int, mget (enci l) (.int .i64 v) = if v ∈ l then some (.bool true) else none
 | [] => rfl
 | a :: l => by
  simp only [enci, List.map_cons, mget, keq, leq, decide_eq_true_eq, List.mem_cons]
  split
  ·rename_i e; rw [if_pos (.inl e)]
  ·rename_i e
   rw [show mget (l.map fun v => ((.int .i64 v : D), (.bool true : D))) (.int .i64 v) = mget (enci l) (.int .i64 v) from rfl, mget_enci v l]
   simp [e]
theorem mput_enci (v : Int) : ∀ l : List Int, v ∉ l → mput (enci l) (.int .i64 v) (.bool true) = enci (l ++ [v])
 | [], _ => rfl
 | a :: l, h => by
  simp only [List.mem_cons, not_or] at h
  simp only [enci, List.map_cons, mput, keq, leq, decide_eq_true_eq, if_neg h.1, List.cons_append]
  congr 1
  exact mput_enci v l h.2
theorem callV1 : callable Tryd.prog 86 = true := by kernel_rfl
theorem callV2 : callable Tryd.prog 132 = true := by kernel_rfl
abbrev pcV (l : List Int) (a : A) : Pc := ⟨3, 1, l.map (.int .i64), a⟩
abbrev vmap (l : List Int) : AObj := .map (.one (.int .i64)) (enci l)
set_option maxHeartbeats 2000000 in
theorem moreV_ok {eb : EbG} {H R : Heap} {bl : Nat} {xs : List Int} {a : A} (hacc : AccN H [bl] [pcV xs a] R) (v : Int) (hl : xs.length ≤ 1048576) (K : A → Heap → Prop)
  (hK : ∀ a' R', AccN H [bl] [pcV (xs ++ [v]) a'] R' → K (.d (.bool true)) (hp R' [(bl, .var [a'])])) :
  ACall Tryd.prog (seatV eb) 86 [.d (.int .i64 v), .ref bl 0] (hp R [(bl, .var [a])]) K := by
 refine ACall.by mixed fn86 (by simp) ?_
 conv in s86 => cbv
 refine svc_start ?_
 simp -dsimp only [go_sem, gS]
 refine newV_hp (fun b6 v6 f6 w6 => ?_)
 simp only [off_cons, off_nil] at f6
 simp -dsimp only [go_sem, gS, f6]
 refine AccN.appTo (pre := []) (p := pcV xs a) (post := []) hacc (by simp only [hpS, eq_self, implies_true, f6]) (by simp only [hpS, eq_self, implies_true, ]) (by simp only [List.length_map, List.length_cons, List.length_nil]; omega) (fun a2 R5 hacc5 hn5 => ?_)
 obtain ⟨hg1, hg2⟩ := AccN.one (pre := []) hacc5
 simp only at hg1 hg2
 have hg3 : a2.cells.length = 1 := by rw [hg2]; rfl
 simp -dsimp only [go_sem, gS, f6, hg1, hg2, hg3]
 have q6 := hn5 b6 (by simp only [hpS, eq_self, implies_true, f6]) f6.2.2
 have hacc6 : AccN H [bl] [pcV (xs ++ [v]) a2] R5 := by simp only [pcV, List.map_append, List.map_cons, List.map_nil]; exact hacc5
 exact retW_drop (G := hp R5 [(bl, .var [a2])]) (leH_hp (by simp only [hpS, eq_self, implies_true, f6, q6]) (by simp only [hpS, eq_self, implies_true, f6, q6])) (retW_is (hK _ _ hacc6))
end Go.Aug

/- FlatCounts, plain: a body's clauses, their counts, whose numbers are whose. -/
namespace Go.Aug
set_option maxRecDepth 100000
set_option linter.unusedSimpArgs false
/-- What is met is what stands there. -/
theorem foldV_all {A : Int → Prop} : ∀ {vs acc : List Int}, (∀ v ∈ vs, A v) → (∀ v ∈ acc, A v) → ∀ v ∈ vs.foldl vStep acc, A v
 | [], _, _, h => h
 | u :: vs, acc, hv, h => foldV_all (vs := vs) (acc := vStep acc u) (fun v hv' => hv v (.tail _ hv')) (fun v hm => by
  unfold vStep at hm
  split at hm
  ·exact h v hm
  ·rcases List.mem_append.1 hm with hm | hm
   ·exact h v hm
   ·rw [List.mem_singleton.1 hm]; exact hv u (.head _))
mutual
theorem fVars_all {A : Int → Prop} : ∀ (f : Fl) (acc : List Int), f.okG A → (∀ v ∈ acc, A v) → ∀ v ∈ fVars f acc, A v
 | .mk _ _ _ _ _ _ _ gs, acc, hf, h => fVarss_all gs _ hf.2.2.2 (foldV_all hf.1 h)
theorem fVarss_all {A : Int → Prop} : ∀ (gs : List Fl) (acc : List Int), Fl.okGs A gs → (∀ v ∈ acc, A v) → ∀ v ∈ fVarss gs acc, A v
 | [], _, _, h => h
 | g :: gs, acc, hf, h => fVarss_all gs _ hf.2 (fVars_all g acc hf.1 h)
end
/-- Where each clause's numbers begin. -/
def nstart : List It → Nat → Nat → Nat
 | [], n, _ => n
 | _ :: _, n, 0 => n
 | it :: ls, n, i + 1 => nstart ls (nclause it n).2 i
theorem nstart_zero (ls : List It) (n : Nat) : nstart ls n 0 = n := by cases ls <;> rfl
theorem nstart_le : ∀ (ls : List It) (n i : Nat), n ≤ nstart ls n i ∧ nstart ls n i ≤ nstart ls n (i + 1) ∧ nstart ls n i ≤ (nclauses ls n).2
 | [], n, i => ⟨Nat.le_refl _, Nat.le_refl _, Nat.le_refl _⟩
 | it :: ls, n, 0 => by
  have h1 := nclause_next it n
  have h2 := nclauses_next ls (nclause it n).2
  simp only [nstart, nclauses, nstart_zero]
  omega
 | it :: ls, n, i + 1 => by
  have h1 := nclause_next it n
  have := nstart_le ls (nclause it n).2 i
  simp only [nstart, nclauses]
  omega
theorem nclauses_own {ar : Nat} : ∀ {ls : List It} {n : Nat}, (∀ it ∈ ls, it.small ∧ it.args.length ≤ ar ∧ it.nodes ≤ 536870912) → ∀ {i : Nat} {c : Fl}, (nclauses ls n).1[i]? = some c → c.okG (okI ar (nstart ls n i) (nstart ls n (i + 1)))
 | [], n, _, i, c, hc => by simp [nclauses] at hc
 | it :: ls, n, h, 0, c, hc => by
  simp only [nclauses, List.getElem?_cons_zero, Option.some.injEq] at hc
  subst hc
  obtain ⟨h1, h2, h3⟩ := h it (.head _)
  simp only [nstart, nstart_zero]
  exact nclause_in h1 h2 h3
 | it :: ls, n, h, i + 1, c, hc => by
  simp only [nclauses, List.getElem?_cons_succ] at hc
  simp only [nstart]
  exact nclauses_own (fun x hx => h x (.tail _ hx)) hc
/-- The clauses of a body, as the law takes them apart. -/
def clsOf (n : Nat) (f : Fl) : List Fl := if 1 < n then (match f with | .mk _ _ _ _ _ _ _ gs => gs) else [f]
structure Counts (l : List It) (pcs : List Int) (ar : Nat) (bv : Int) (body : Fl) : Prop where
 cnt : body.cnt = sumCnt (atIts l pcs)
 len : 0 < pcs.length → (clsOf pcs.length body).length = pcs.length
 own : ∀ (i : Nat) (c : Fl), (clsOf pcs.length body)[i]? = some c → c.okG (okI ar (nstart (atIts l pcs) ar i) (nstart (atIts l pcs) ar (i + 1)))
 last : ∀ i, (nstart (atIts l pcs) ar i : Int) ≤ bv
 nv : (ar : Int) ≤ bv
theorem nflat_counts {l : List It} (hl : Txt l) (hw : ∀ it ∈ l, it.wf) {x : Ix} (hnd : (x.preds.map Pr.key).Nodup) (hp : ∀ p ∈ x.preds, PrAt l p) {j : Nat} {p : Pr} (hj : x.preds[j]? = some p) (h0 : (nflat l x p.key).1 = 0) :
  Counts l p.clauses p.key.ar.toNat (nflat l x p.key).2.vars (nflat l x p.key).2.body := by
 have hpf := pfind_at hnd hj
 have hok := hp p (List.mem_of_getElem? hj)
 unfold nflat at h0 ⊢
 rw [hpf] at h0 ⊢
 simp only at h0 ⊢
 split at h0
 ·cases h0
 ·rename_i hb
  split at h0
  ·cases h0
  ·rename_i hv
   rw [if_neg hb, if_neg hv]
   have hits : ∀ it ∈ atIts l p.clauses, it.wf ∧ it.small ∧ it.args.length ≤ p.key.ar.toNat ∧ it.nodes ≤ 536870912 := fun it hit => by
    obtain ⟨c, hc, rfl⟩ := List.mem_map.1 hit
    obtain ⟨y, h1, _, h2⟩ := hok.cl c hc
    rw [List.getD_eq_getElem?_getD, h1, Option.getD_some]
    have hm := List.mem_of_getElem? h1
    exact ⟨hw y hm, hl.small y hm, by omega, Nat.le_trans (hl.nodes y hm) (by decide)⟩
   have hlen : (nclauses (atIts l p.clauses) p.key.ar.toNat).1.length = p.clauses.length := by rw [nclauses_len]; simp [atIts]
   have hown := fun i c => nclauses_own (ar := p.key.ar.toNat) (ls := atIts l p.clauses) (n := p.key.ar.toNat) (fun it hit => (hits it hit).2) (i := i) (c := c)
   have hst := fun i => (nstart_le (atIts l p.clauses) p.key.ar.toNat i).2.2
   have hn := (nclauses_next (atIts l p.clauses) p.key.ar.toNat).1
   refine ⟨?_, ?_, ?_, ?_, ?_⟩
   ·simp only
    rw [nbody_cnt]
    exact nclauses_cnt _ _ fun it hit => (hits it hit).1
   ·intro hpos
    simp only
    unfold clsOf
    split
    ·revert hlen
     generalize (nclauses (atIts l p.clauses) p.key.ar.toNat).1 = gs
     intro hlen
     rcases gs with _ | ⟨a, _ | ⟨b, gs⟩⟩
     ·simp at hlen; omega
     ·simp at hlen; omega
     ·exact hlen
    ·simp; omega
   ·intro i c hc
    simp only at hc
    unfold clsOf at hc
    revert hlen hown hc
    generalize (nclauses (atIts l p.clauses) p.key.ar.toNat).1 = gs
    intro hlen hown hc
    rcases gs with _ | ⟨a, _ | ⟨b, gs⟩⟩
    ·rw [if_neg (by simp at hlen; omega)] at hc
     cases i with
     | zero =>
      simp only [List.getElem?_cons_zero, Option.some.injEq] at hc
      subst hc
      exact okG_leaf (by show ∀ v ∈ ([] : List Int), _; simp) (Nat.zero_le _)
     | succ i => simp at hc
    ·rw [if_neg (by simp at hlen; omega)] at hc
     exact hown i c hc
    ·rw [if_pos (by simp at hlen; omega)] at hc
     exact hown i c hc
   ·intro i; have := hst i; simp only; omega
   ·simp only; omega
end Go.Aug

/- flat.each: each variable once, in the order in which they stand. -/
namespace Go.Aug
open Go.Proofs
set_option maxRecDepth 100000
set_option linter.unusedSimpArgs false
attribute [local irreducible] hid andK letA onSome onVar onArr arrOnly onInt onBool onTup idxA ldV ldD addO appTo fillL slA srcK nilQ retW gif sgd sguard svc sops sdops sagain aopO aLoad aStore aBin aUn aConv aLen aIndexAddr aIndex aIndexAddrS aIndexS aSlice aAppend aBuild aBuildSlice aMakeSlice aField aFieldOf aCallOp deepK deepL frzM putE newK newV growV ACall roundQ thenQ inBlockQ sret cnd szs nilC onMap onRow aLookup aMapUpdate aMakeMap
attribute [local go_sem] Int.natCast_zero
set_option maxHeartbeats 4000000 in
theorem each_ok {eb : EbG} {n : Nat} (hn : n ≤ 1048576) : ∀ (m : Nat) (f : Fl), f.nodes ≤ m → f.okG (numIn n) → ∀ (H R : Heap) (bl bm : Nat) (a : A) (acc : List Int) (_ : eqn bl bm = false ∧ eqn bm bl = false) (_ : AccN H [bl, bm] [pcV acc a] R) (_ : Nums n acc) (K : A → Heap → Prop)
  (_ : ∀ a' R', AccN H [bl, bm] [pcV (fVars f acc) a'] R' → K (.d (.bool true)) (hp R' [(bl, .var [a']), (bm, vmap (fVars f acc))])),
  ACall Tryd.prog (seatV eb) 85 [.d f.d, .mp bm, .func 86 [.ref bl 0]] (hp R [(bl, .var [a]), (bm, vmap acc)]) K
 | 0, .mk k x y i c p xs gs, hm, _, _, _, _, _, _, _, _, _, _, _, _ => by simp only [Fl.nodes] at hm; omega
 | m + 1, .mk k x y i ⟨cn, ca⟩ ⟨pn, pa⟩ xs gs, hm, hok, H, R, bl, bm, a, acc, hne, hacc, hnum, K, hK => by
  simp only [Fl.nodes] at hm
  obtain ⟨hown, hxl, hgl, hgs⟩ := hok
  refine ACall.by mixed fn85 (by simp) ?_
  conv in s85 => cbv
  refine svc_start ?_
  simp -dsimp only [go_sem, gS, Fl.d, Fl.cs]
  refine newK_hp (fun b3 f3 => ?_)
  simp only [off_cons, off_nil] at f3
  simp -dsimp only [go_sem, gS, hne, f3]
  refine own_ok (.mk k x y i ⟨cn, ca⟩ ⟨pn, pa⟩ xs gs) _ _ (fun k' x' y' i' c' p' xs' gs' e => by cases e; omega) ?_
  simp only [fVars] at hK
  have hol : (nown (.mk k x y i ⟨cn, ca⟩ ⟨pn, pa⟩ xs gs)).length ≤ 1048576 := by
   simp only [nown]
   repeat' split
   all_goals first | (simp; done) | (simp only [List.length_cons]; omega) | omega
  generalize nown (.mk k x y i ⟨cn, ca⟩ ⟨pn, pa⟩ xs gs) = own at hown hK hol ⊢
  simp -dsimp only [go_sem, gS, hne, f3]
  refine svc_loop (X := Nat × List Int × A × Heap) (fun u => [(1, .mp bm), (2, .func 86 [.ref bl 0]), (3, .ref b3 0), (12, .d (.slice (own.map (.int .i64)))), (13, .d (.int .i64 own.length)), (14, .d (.int .i64 u.1))])
   (fun u G => G = hp u.2.2.2 [(bl, .var [u.2.2.1]), (bm, vmap u.2.1), (b3, .var [.d (.int .i64 k), .d (.int .i64 x), .d (.int .i64 y), .d (.int .i64 i), .d (.str cn), .d (.int .i64 ca), .d (.str pn), .d (.int .i64 pa), .d (.slice (xs.map (.int .i64))), .d (.slice (Fl.ds gs))])] ∧ AccN H [bl, bm] [pcV u.2.1 u.2.2.1] u.2.2.2 ∧ u.2.2.2 b3 = none ∧ u.1 ≤ own.length ∧ Nums n u.2.1 ∧ (own.drop u.1).foldl vStep u.2.1 = own.foldl vStep acc)
   (fun u => own.length - u.1) (0, acc, a, R) _ ⟨rfl, hacc, f3.2.2.2.2, Nat.zero_le _, hnum, rfl⟩ (by simp -dsimp only [go_sem, gS]) (leH_hp (by simp only [hpS, eq_self, implies_true, hne, f3]) (by simp only [hpS, eq_self, implies_true, hne, f3])) ?_
  rintro ⟨j, xs1, a1, R1⟩ G ⟨rfl, hacc1, f3', hj, hnum1, hrun⟩
  simp only at hacc1 f3' hj hnum1 hrun
  have hwj := wrapN (k := j) (by omega)
  have hlen1 := hnum1.len
  simp -dsimp only [go_sem, gS, hne, f3, f3']
  refine gif_split (fun q1 => ?_) (fun q1 => ?_)
  ·have hj2 : j < own.length := by have := of_decide_eq_true q1; omega
   obtain ⟨v, hv⟩ : ∃ v, own[j]? = some v := ⟨_, List.getElem?_eq_getElem hj2⟩
   have hd : own.drop j = v :: own.drop (j + 1) := by rw [List.drop_eq_getElem_cons hj2]; rw [List.getElem?_eq_getElem hj2] at hv; cases hv; rfl
   rw [hd, List.foldl_cons] at hrun
   have hin := hown v (List.mem_of_getElem? hv)
   simp -dsimp only [go_sem, gS, q1, hne, f3, f3', hv, List.getElem?_map, Option.map_some, mget_enci]
   by_cases hmem : v ∈ xs1
   ·have es : vStep xs1 v = xs1 := if_pos hmem
    rw [es] at hrun
    simp -dsimp only [go_sem, gS, q1, hne, f3, f3', hv, hwj, if_pos hmem, Option.getD_some]
    exact roundQ_next (j + 1, xs1, a1, R1) _ ⟨rfl, hacc1, f3', by simp only; omega, hnum1, hrun⟩ (by simp only; omega) (by simp -dsimp only [go_sem, gS]) (leH_hp (by simp only [hpS, eq_self, implies_true, hne, f3, f3']) (by simp only [hpS, eq_self, implies_true, hne, f3, f3']))
   ·have es : vStep xs1 v = xs1 ++ [v] := if_neg hmem
    have hnum2 := hnum1.step hin
    rw [es] at hrun hnum2
    simp -dsimp only [go_sem, gS, q1, hne, f3, f3', hv, hwj, if_neg hmem, Option.getD_none, mput_enci v xs1 hmem]
    obtain ⟨H1, R2, e, hacc2, back⟩ := accN_sub (r := bl) (qs := [pcV xs1 a1]) (ps := []) (o := .var [a1]) (l := [(bm, vmap (xs1 ++ [v])), (b3, .var [.d (.int .i64 k), .d (.int .i64 x), .d (.int .i64 y), .d (.int .i64 i), .d (.str cn), .d (.int .i64 ca), .d (.str pn), .d (.int .i64 pa), .d (.slice (xs.map (.int .i64))), .d (.slice (Fl.ds gs))])]) (by simpa using hacc1) (by simp only [hpS, eq_self, implies_true, hne, f3, f3']) (by simp only [hpS, eq_self, implies_true, hne]) (by simp only [hpS, eq_self, implies_true, hne, f3])
    rw [e]
    refine andK_split callV1 ?_
    simp -dsimp only [go_sem, gS, hne, f3, f3']
    refine moreV_ok hacc2 v (by omega) _ (fun a2 R3 hacc3 => ?_)
    obtain ⟨R4, hacc4, e4, hn4⟩ := back _ _ hacc3
    have f34 := hn4 b3 (by simp only [hpS, eq_self, implies_true, hne, f3]) f3'
    rw [e4]
    simp -dsimp only [go_sem, gS, hne, f3, f34, hwj]
    exact roundQ_next (j + 1, xs1 ++ [v], a2, R4) _ ⟨rfl, by simpa using hacc4, f34, by simp only; omega, hnum2, hrun⟩ (by simp only; omega) (by simp -dsimp only [go_sem, gS]) (leH_hp (by simp only [hpS, eq_self, implies_true, hne, f3, f34]) (by simp only [hpS, eq_self, implies_true, hne, f3, f34]))
  ·rw [List.drop_eq_nil_of_le (by have := of_decide_eq_false q1; omega)] at hrun
   simp only [List.foldl_nil] at hrun
   subst hrun
   simp -dsimp only [go_sem, gS, q1, hne, f3, f3']
   refine svc_loop (X := Nat × List Int × A × Heap) (fun u => [(1, .mp bm), (2, .func 86 [.ref bl 0]), (29, .d (.slice (Fl.ds gs))), (30, .d (.int .i64 gs.length)), (31, .d (.int .i64 u.1))])
    (fun u G => G = hp u.2.2.2 [(bl, .var [u.2.2.1]), (bm, vmap u.2.1)] ∧ AccN H [bl, bm] [pcV u.2.1 u.2.2.1] u.2.2.2 ∧ u.1 ≤ gs.length ∧ Nums n u.2.1 ∧ fVarss (gs.drop u.1) u.2.1 = fVarss gs (own.foldl vStep acc))
    (fun u => gs.length - u.1) (0, own.foldl vStep acc, a1, R1) _ ⟨rfl, hacc1, Nat.zero_le _, hnum1, rfl⟩ (by simp -dsimp only [go_sem, gS, Fl.ds_map, List.length_map]) (leH_hp (by simp only [hpS, eq_self, implies_true, hne, f3, f3']) (by simp only [hpS, eq_self, implies_true, hne, f3, f3'])) ?_
   rintro ⟨j2, xs2, a2, R2⟩ G ⟨rfl, hacc2, hj2, hnum2, hrun2⟩
   simp only at hacc2 hj2 hnum2 hrun2
   simp -dsimp only [go_sem, gS, hne, Fl.ds_map]
   refine gif_split (fun q2 => ?_) (fun q2 => ?_)
   ·have hj3 : j2 < gs.length := by have := of_decide_eq_true q2; omega
    have hwj2 := wrapN (k := j2) (by omega)
    obtain ⟨g, hg⟩ : ∃ g, gs[j2]? = some g := ⟨_, List.getElem?_eq_getElem hj3⟩
    have hd : gs.drop j2 = g :: gs.drop (j2 + 1) := by rw [List.drop_eq_getElem_cons hj3]; rw [List.getElem?_eq_getElem hj3] at hg; cases hg; rfl
    rw [hd, fVarss] at hrun2
    have hgm := List.mem_of_getElem? hg
    have hgok := Fl.okGs_iff.1 hgs g hgm
    obtain ⟨gk, gx, gy, gi, ⟨gcn, gca⟩, ⟨gpn, gpa⟩, gxs, ggs⟩ := g
    simp -dsimp only [go_sem, gS, q2, hne, hg, List.getElem?_map, Option.map_some, Fl.d, Fl.cs]
    refine newK_hp (fun b10 f10 => ?_)
    simp only [off_cons, off_nil] at f10
    simp -dsimp only [go_sem, gS, q2, hne, f10]
    refine ACall.le (G := hp R2 [(bl, .var [a2]), (bm, vmap xs2)]) (each_ok hn m (.mk gk gx gy gi ⟨gcn, gca⟩ ⟨gpn, gpa⟩ gxs ggs) (by have := Fl.nodess_mem hgm; omega) hgok H R2 bl bm a2 xs2 hne hacc2 hnum2 _ (fun a3 R3 hacc3 => ?_)) (leH_hp (by simp only [hpS, eq_self, implies_true, hne, f10]) (by simp only [hpS, eq_self, implies_true, hne, f10]))
    have hnum3 := hnum2.vars hgok
    generalize fVars (Fl.mk gk gx gy gi ⟨gcn, gca⟩ ⟨gpn, gpa⟩ gxs ggs) xs2 = xs3 at hrun2 hacc3 hnum3 ⊢
    simp -dsimp only [go_sem, gS, hne, hwj2]
    exact roundQ_next (j2 + 1, xs3, a3, R3) _ ⟨rfl, hacc3, by simp only; omega, hnum3, hrun2⟩ (by simp only; omega) (by simp -dsimp only [go_sem, gS, Fl.ds_map]) (leH_hp (by simp only [hpS, eq_self, implies_true, hne]) (by simp only [hpS, eq_self, implies_true, hne]))
   ·rw [List.drop_eq_nil_of_le (by have := of_decide_eq_false q2; omega), fVarss] at hrun2
    subst hrun2
    simp -dsimp only [go_sem, gS, q2, hne]
    exact retW_is (hK _ _ hacc2)
end Go.Aug
