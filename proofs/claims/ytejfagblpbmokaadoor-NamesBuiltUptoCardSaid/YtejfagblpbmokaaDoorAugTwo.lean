/- The abstract layer: abstract values and heaps, what code does to them, the conditions of its operations as equations; no conditions of its own. -/
import Derived.Test.YtejfagblpbmokaaDoorAugOne
import Derived.Orders
set_option linter.all false
set_option linter.unusedVariables false
set_option linter.unusedSimpArgs false
set_option linter.unusedSectionVars false

/-
  The abstract layer, part O: what a function hands back; a call out of its body.
-/
namespace Go.Aug
/-- What a result variable holds. -/
def resOf (P : Program) (V : Env) (N : Nat) (F : Nat → A) (H : Heap) : ResultVar → Option A
  | .tmp t => some (ev V N F (.tmp t))
  | .cell a t => match ev V N F (.tmp a) with
    | .ref b off => match H b, tshape P t with
      | some (.var cs), some (true, n) => if off + n ≤ cs.length then some (aggN ((cs.drop off).take n)) else none
      | some (.var cs), some (false, _) => cs[off]?
      | _, _ => none
    | _ => none
def resAll (P : Program) (V : Env) (N : Nat) (F : Nat → A) (H : Heap) : List ResultVar → Option (List A)
  | [] => some []
  | r :: rs => match resOf P V N F H r, resAll P V N F H rs with
    | some x, some xs => some (x :: xs)
    | _, _ => none
def tupled : List A → A
  | [x] => x
  | xs => .tup xs
/-- What must hold where a function ends: K of what it hands back, perhaps frozen, of what it keeps. -/
def retQ (P : Program) (V : Env) (fn : Func) (K : A → Heap → Prop) : Post
  | .normal, F, H | .ret, F, H => match resAll P V fn.ntmps F H fn.results.toList with
    | some rs => retW V (tupled rs) H K
    | none => False
  | _, _, _ => False
section
variable {P : Program} {V : Env} {N : Nat} {ds : List Deferred} {F : Nat → A} {Z : Nat → Prop} {H : Heap} {a : Act} {w : World}
def resRun (a : Act) : ResultVar → Sem Value
  | .tmp t => pure (a.tmps.getD t undef)
  | .cell b t => do loadVar t (← asAddr (a.tmps.getD b undef))
theorem resOf_sound (s : St V N ds Z F H a w) {r : ResultVar} {x : A} (h : resOf P V N F H r = some x) : ∃ v, (resRun a r).run P w = .ok v w ∧ RepA V w Z v x := by
  cases r with
  | tmp t =>
    simp only [resOf, Option.some.injEq] at h
    subst h
    exact ⟨_, rfl, ev_rep s (.tmp t)⟩
  | cell b t =>
    simp only [resOf] at h
    split at h
    · rename_i g off hx
      have rx := ev_rep s (.tmp b)
      rw [hx] at rx
      simp only [Act.eval] at rx
      generalize hv : a.tmps.getD b undef = v at rx
      cases rx
      have key : ∀ K : A → Prop, aLoad P t (.ref g off) H K → ∃ u y, (loadVar t ⟨g, off, none⟩).run P w = .ok u w ∧ RepA V w Z u y ∧ K y := by
        intro K hK
        have := aLoad_sound hK s.mem (.ref (V := V) (w := w) (Z := Z) g off)
        simpa [Instr.loadAt, Instr.sureAddr] using this
      split at h
      · rename_i cs n hH ht
        split at h
        · rename_i hle
          cases h
          obtain ⟨u, y, h1, h2, rfl⟩ := key (fun y => y = aggN ((cs.drop off).take n)) (by simp [aLoad, hH, ht, hle])
          exact ⟨u, by simpa [resRun, hv, asAddr] using h1, h2⟩
        · cases h
      · rename_i cs n hH ht
        obtain ⟨u, y, h1, h2, rfl⟩ := key (fun y => y = x) (by simp [aLoad, hH, ht, h])
        exact ⟨u, by simpa [resRun, hv, asAddr] using h1, h2⟩
      · cases h
    · cases h
theorem resAll_sound (s : St V N ds Z F H a w) : ∀ (l : List ResultVar) (rs : List A), resAll P V N F H l = some rs →
    ∃ vs : List Value, (l.mapM (resRun a)).run P w = .ok vs w ∧ vs.length = rs.length ∧ ∀ j (h : j < vs.length) (h' : j < rs.length), RepA V w Z vs[j] rs[j]
  | [], rs, h => by simp [resAll] at h; subst h; exact ⟨[], rfl, rfl, fun j h => by simp at h⟩
  | r :: l, rs, h => by
    simp only [resAll] at h
    split at h
    · rename_i x xs hx hxs
      cases h
      obtain ⟨v, h1, h2⟩ := resOf_sound s hx
      obtain ⟨vs, h3, h4, h5⟩ := resAll_sound s l xs hxs
      refine ⟨v :: vs, by rw [List.mapM_cons, Sem.run_bind, h1, Result.andThen_ok, Sem.run_bind, h3]; rfl, by simp [h4], ?_⟩
      intro j hj hj'
      cases j with
      | zero => exact h2
      | succ j => exact h5 j (by simpa using hj) (by simpa using hj')
    · cases h
theorem results_sound {fn : Func} (s : St V N ds Z F H a w) {rs : List A} (h : resAll P V N F H fn.results.toList = some rs) : ∃ v, (results fn a.tmps).run P w = .ok v w ∧ RepA V w Z v (tupled rs) := by
  obtain ⟨vs, h1, h2, h3⟩ := resAll_sound s _ _ h
  have hm : (fn.results.mapM (m := Sem) (resRun a)).run P w = .ok vs.toArray w := by
    rw [Array.mapM_eq_mapM_toList, Sem.run_map, h1]; rfl
  have hres : (results fn a.tmps).run P w = .ok (if h : vs.toArray.size = 1 then vs.toArray[0] else .tuple vs.toArray) w := by
    have : results fn a.tmps = (do let vs ← fn.results.mapM (resRun a); pure (if h : vs.size = 1 then vs[0] else .tuple vs) : Sem Value) := by
      unfold results
      congr 2
    rw [this, Sem.run_bind, hm]
    rfl
  refine ⟨_, hres, ?_⟩
  match vs, rs, h2, h3 with
  | [], [], _, _ => exact .tup [] [] rfl (fun j h => by simp at h)
  | [v], [x], _, h3 => exact h3 0 (by simp) (by simp)
  | v :: u :: vs, x :: y :: rs, h2, h3 =>
    simp only [List.size_toArray, List.length_cons, tupled]
    rw [dif_neg (by omega)]
    exact .tup _ _ h2 h3
/-- A call, out of the function's body. -/
theorem ACall.of {f : FuncId} {fn : Func} {c : Code} {args : List A} {K : A → Heap → Prop} (hf : P.funcs[f]? = some fn) (hb : fn.body = some c) (hn : args.length ≤ fn.ntmps)
    (h : AWp P V fn.ntmps c (retQ P V fn K) (argsF args) H) : ACall P V f args H K := by
  intro Z w cv hl hr m
  refine calls_of_wp hf hb ?_
  have s : St V fn.ntmps [] Z (argsF args) H { tmps := cv.toArray ++ Array.replicate (fn.ntmps - cv.toArray.size) undef, defers := [] } w := by
    refine ⟨rfl, by simp; omega, ?_, m⟩
    intro i hi
    rw [Array.getD_eq_getD_getElem?, Array.getElem?_append]
    simp only [argsF, List.getD]
    by_cases e : i < cv.length
    · have e' : i < args.length := by omega
      simp only [List.size_toArray, e, if_true, List.getElem?_toArray, List.getElem?_eq_getElem e, List.getElem?_eq_getElem e', Option.getD_some]
      exact hr i e e'
    · rw [List.getElem?_eq_none (show args.length ≤ i by omega)]
      exact .undef _
  refine wp_mono (h [] Z _ w s) ?_
  rintro e a' w' ⟨Z', F', H', s', x', q⟩
  have fin : (match resAll P V fn.ntmps F' H' fn.results.toList with
    | some rs => retW V (tupled rs) H' K
    | none => False) → a'.defers = [] ∧ ∃ v, (results fn a'.tmps).run P w' = .ok v w' ∧ ∃ u r Z' H', Ending.returned v = .returned u ∧ RepA V w' Z' u r ∧ Mem V Z' H' w' ∧ Ext Z H w Z' H' w' ∧ K r H' := by
    intro q
    split at q
    · rename_i rs hrs
      obtain ⟨v, hv, rv⟩ := results_sound s' hrs
      obtain ⟨r', Z2, H'', r2, m2, x2, hK⟩ := q Z' w' v rv s'.mem
      exact ⟨s'.defers, v, hv, v, r', Z2, H'', rfl, r2, m2, x'.trans m.zlt x2, hK⟩
    · exact q.elim
  cases e with
  | normal => exact fin q
  | ret => exact fin q
  | exit => exact q.elim
  | goto => exact q.elim
  | panic => exact q.elim
  | outgrown => exact q.elim
end
end Go.Aug

/-
  The abstract layer, part P: regions that draw their order: one walk serves every order.
-/
namespace Go.Aug
/-- How a region that draws is gone through: what floats is done as soon as it can be; of what acts each that may come next is gone into. -/
inductive Plan where
  | done
  | fl (i : Nat) (rest : Plan)
  | eff (i : Nat) (chk : List Nat) (rest : Plan)
  | both (p q : Plan)
/-- An operation that leaves memory alone and answers one thing. -/
def isFloat (P : Program) (o : Oper) : Bool :=
  match o.op with
  | .move _ | .assign _ | .pick .. | .load .. | .fieldAddr .. | .field .. | .indexAddr .. | .index .. | .unOp .. | .extract .. | .nilCheck _ => true
  | .binOp _ t _ _ _ => !isSliceT P t
  | .call c => match c.callee with
    | .builtin .len => true
    | _ => false
  | _ => false
/-- .. that looks into memory. -/
def looksIn (o : Oper) : Bool :=
  match o.op with
  | .load .. | .indexAddr .. | .call _ => true
  | _ => false
/-- What an operation left is what it would leave now. -/
def again (P : Program) (V : Env) (N : Nat) (ops : Array Oper) (F : Nat → A) (H : Heap) : List Nat → Prop
  | [] => True
  | j :: js => (match ops[j]? with
    | some o => match o.dst with
      | some d => guardK F N ops o (aop P V N o F H fun y _ => y = F d) (F d = .tup [])
      | none => False
    | none => False) ∧ again P V N ops F H js
def dops (P : Program) (V : Env) (N : Nat) (ops : Array Oper) : Plan → (Nat → A) → Heap → ((Nat → A) → Heap → Prop) → Prop
  | .done, F, H, K => K F H
  | .fl i rest, F, H, K => match ops[i]? with
    | some o => guardK F N ops o (aop P V N o F H fun x H' => dops P V N ops rest (putF F o.dst x) H' K) (dops P V N ops rest (putF F o.dst (.tup [])) H K)
    | none => False
  | .eff i chk rest, F, H, K => match ops[i]? with
    | some o => guardK F N ops o (aop P V N o F H fun x H' => again P V N ops (putF F o.dst x) H' chk ∧ dops P V N ops rest (putF F o.dst x) H' K) (dops P V N ops rest (putF F o.dst (.tup [])) H K)
    | none => False
  | .both p q, F, H, K => dops P V N ops p F H K ∧ dops P V N ops q F H K
section
variable {P : Program} {V : Env} {N : Nat} {F : Nat → A} {Z : Nat → Prop} {H : Heap} {a : Act} {w : World}
theorem ev_congr {F F' : Nat → A} {x : Operand} (h : ∀ t, x = .tmp t → F t = F' t) : ev V N F x = ev V N F' x := by
  cases x with
  | tmp t => simp only [ev, h t rfl]
  | const v => rfl
  | global g => rfl
  | func f => rfl
theorem aop_congr {o : Oper} {F F' : Nat → A} {K : A → Heap → Prop} (h : ∀ x ∈ o.op.operands, ev V N F x = ev V N F' x) : aop P V N o F H K = aop P V N o F' H K := by
  have hl : ∀ (l : List Operand), (∀ x ∈ l, x ∈ o.op.operands) → l.map (ev V N F) = l.map (ev V N F') := fun l hl => List.map_congr_left fun x hx => h x (hl x hx)
  have hp : ∀ (l : List (Nat × Operand)), (∀ x ∈ l, x.2 ∈ o.op.operands) → (l.map fun p => (p.1, ev V N F p.2)) = l.map fun p => (p.1, ev V N F' p.2) := fun l hl => List.map_congr_left fun x hx => by rw [h _ (hl x hx)]
  obtain ⟨dst, op, ty, pos, after, guard⟩ := o
  simp only at h hl hp
  unfold aop aopO
  simp only
  split
  · rw [h _ (by simp [Op.operands])]
  · rw [h _ (by simp [Op.operands])]
  · rw [h _ (by simp [Op.operands]), h _ (by simp [Op.operands]), h _ (by simp [Op.operands])]
  · rfl
  · rw [h _ (by simp [Op.operands])]
  · rw [hp _ (fun x hx => by simp [Op.operands]; exact ⟨x.1, by simpa using hx⟩)]
  · rw [hp _ (fun x hx => by simp [Op.operands]; exact ⟨x.1, by simpa using hx⟩)]
  · rw [h _ (by simp [Op.operands])]
  · rename_i t x y
    rw [h x (by simp [Op.operands]), h y (by simp [Op.operands])]
  · rw [h _ (by simp [Op.operands])]
  · rename_i op t x y u
    rw [h x (by simp [Op.operands]), h y (by simp [Op.operands])]
  · rw [h _ (by simp [Op.operands])]
  · rw [h _ (by simp [Op.operands])]
  · rename_i f first caps
    rw [hl _ (fun x hx => by simp [Op.operands]; exact .inr (by simpa using hx))]
  · rename_i t l c
    rw [h l (by simp [Op.operands]), h c (by simp [Op.operands])]
  · rename_i t x lo hi
    rw [h x (by simp [Op.operands])]
    have e1 : lo.map (ev V N F) = lo.map (ev V N F') := by cases lo with | none => rfl | some y => simp [h y (by simp [Op.operands])]
    have e2 : hi.map (ev V N F) = hi.map (ev V N F') := by cases hi with | none => rfl | some y => simp [h y (by simp [Op.operands])]
    rw [e1, e2]
  · rw [h _ (by simp [Op.operands])]
  · rw [h _ (by simp [Op.operands])]
  · rename_i t x i
    rw [h x (by simp [Op.operands]), h i (by simp [Op.operands])]
  · rename_i t x i
    rw [h x (by simp [Op.operands]), h i (by simp [Op.operands])]
  · rw [h _ (by simp [Op.operands])]
  · rename_i c
    have hc : ∀ x ∈ c.operands, ev V N F x = ev V N F' x := fun x hx => h x (by simpa [Op.operands] using hx)
    have ha : ∀ x ∈ c.args.toList, ev V N F x = ev V N F' x := fun x hx => hc x (by simp [Call.operands]; exact .inr (by simpa using hx))
    unfold aCallOp
    split
    · split
      · rename_i hx _
        rw [ha _ (by simp [hx])]
      · rfl
    · split
      · rename_i x y _ _ hx _
        rw [ha x (by simp [hx]), ha y (by simp [hx])]
      · rfl
    · split
      · rename_i hx
        rw [ha _ (by simp [hx])]
      · rfl
    · split
      · rename_i x y _ _ hx _
        rw [ha x (by simp [hx]), ha y (by simp [hx])]
      · rfl
    · rename_i f hf
      have : c.args.toList.map (ev V N F) = c.args.toList.map (ev V N F') := List.map_congr_left ha
      rw [hc f (by simp [Call.operands, hf]), this]
    · rfl
  · rfl
  · rename_i t x y ok
    rw [h x (by simp [Op.operands]), h y (by simp [Op.operands])]
  · rename_i t x y z
    rw [h x (by simp [Op.operands]), h y (by simp [Op.operands]), h z (by simp [Op.operands])]
  · rfl
/-- A question that has one answer at the most. -/
def Det (T : (A → Prop) → Prop) : Prop := ∀ K, T K → ∃ y, K y ∧ ∀ K' : A → Prop, K' y → T K'
theorem Det.one (y : A) : Det fun K => K y := fun _ h => ⟨y, h, fun _ h => h⟩
theorem Det.no : Det fun _ => False := fun _ h => h.elim
theorem Det.and {p : Prop} {T : (A → Prop) → Prop} (h : Det T) : Det fun K => p ∧ T K := fun K hk => let ⟨y, h1, h2⟩ := h K hk.2; ⟨y, h1, fun K' h' => ⟨hk.1, h2 K' h'⟩⟩
theorem Det.int {x : A} {T : Int → (A → Prop) → Prop} (h : ∀ n, Det (T n)) : Det fun K => intA x fun n => T n K := by
  intro K hk
  unfold intA at hk
  split at hk
  · rename_i k n
    obtain ⟨y, h1, h2⟩ := h n K hk
    exact ⟨y, h1, fun K' h' => by unfold intA; exact h2 K' h'⟩
  · exact hk.elim
theorem aLoad_det {t : TypeId} {x : A} : Det fun K => aLoad P t x H K := by
  unfold aLoad
  split
  · split
    · exact .and (.one _)
    · split
      · exact .one _
      · exact .no
    · exact .no
  · split
    · exact .and (.one _)
    · split
      · exact .one _
      · exact .no
    · exact .no
  · split
    · split
      · exact .and (.and (.and (.one _)))
      · exact .no
    · split
      · refine .and (.and ?_)
        split
        · exact .one _
        · exact .no
      · exact .no
    · exact .no
  · exact .no
theorem aField_det {s : TypeId} {x : A} {f : Nat} : Det fun K => aField P s x f K := by
  unfold aField
  split
  · split
    · exact .one _
    · exact .and (.one _)
    · exact .one _
    · exact .no
  · exact .no
theorem aFieldOf_det {s : TypeId} {x : A} {f : Nat} : Det fun K => aFieldOf P s x f K := by
  unfold aFieldOf
  split
  · split
    · unfold aPart
      split
      · exact .and (.one _)
      · split
        · exact .one _
        · exact .no
      · exact .and (.one _)
      · split
        · exact .one _
        · exact .no
      · exact .no
    · exact .no
  · exact .no
theorem aIndexAddrS_det {t : TypeId} {x i : A} : Det fun K => aIndexAddrS P t x i H K := by
  unfold aIndexAddrS
  split
  · split
    · refine .int fun n => .and ?_
      split
      · split
        · exact .and (.one _)
        · exact .no
      · split
        · exact .and (.and (.and (.one _)))
        · refine .and ?_
          split
          · exact .and (.one _)
          · exact .no
        · exact .no
      · exact .no
    · exact .no
  · exact .no
theorem aIndexS_det {t : TypeId} {x i : A} : Det fun K => aIndexS P t x i K := by
  unfold aIndexS
  split
  · refine .int fun n => .and ?_
    split
    · exact .one _
    · exact .no
  · exact .no
theorem aPart_det {t : TypeId} {x : A} {o : Nat} : Det fun K => aPart P t x o K := by
  unfold aPart
  split
  · exact .and (.one _)
  · split
    · exact .one _
    · exact .no
  · exact .and (.one _)
  · split
    · exact .one _
    · exact .no
  · exact .no
theorem aIndexAddr_det {t : TypeId} {x i : A} : Det fun K => aIndexAddr P t x i H K := by
  unfold aIndexAddr
  split
  · unfold aIndexArr
    split
    · split
      · exact .int fun n => .and (.and (.one _))
      · exact .no
    · exact .no
  · exact aIndexAddrS_det
theorem aIndex_det {t : TypeId} {x i : A} : Det fun K => aIndex P t x i K := by
  unfold aIndex
  split
  · exact aIndexS_det
  · unfold aIndexA
    split
    · split
      · exact .int fun n => .and (.and aPart_det)
      · exact .no
    · exact .no
theorem aUn_det {op : UnOp} {x : A} : Det fun K => aUn op x K := by
  unfold aUn
  split <;> first | exact .one _ | exact .no
theorem aLen_det {x : A} : Det fun K => aLen x H K := by
  unfold aLen
  split
  · exact .one _
  · exact .one _
  · exact .one _
  · split
    · exact .and (.one _)
    · exact .and (.one _)
    · exact .no
  · split
    · exact .one _
    · exact .no
  · exact .no
/-- .. of a bool. -/
def DetB (T : (Bool → Prop) → Prop) : Prop := ∀ K, T K → ∃ y, K y ∧ ∀ K' : Bool → Prop, K' y → T K'
theorem DetB.one (y : Bool) : DetB fun K => K y := fun _ h => ⟨y, h, fun _ h => h⟩
theorem DetB.no : DetB fun _ => False := fun _ h => h.elim
theorem DetB.and {p : Prop} {T : (Bool → Prop) → Prop} (h : DetB T) : DetB fun K => p ∧ T K := fun K hk => let ⟨y, h1, h2⟩ := h K hk.2; ⟨y, h1, fun K' h' => ⟨hk.1, h2 K' h'⟩⟩
theorem aEq_det {t : TypeId} {x y : A} (ht : isSliceT P t = false) : DetB fun K => aEq P V t x y K := by
  unfold aEq
  split <;> first
    | exact .no
    | exact .and (.one _)
    | exact .and (.and (.and (.one _)))
    | (rw [ht]; intro K h; cases h.1)
theorem aBin_det {op : BinOp} {t : TypeId} {lit : Bool} {x y : A} (ht : isSliceT P t = false) : Det fun K => aBin P V op t lit x y K := by
  unfold aBin
  split
  · split
    · unfold shiftOp; exact .and (.one _)
    · unfold shiftOp; exact .and (.one _)
    · refine .and ?_
      unfold intOp
      split <;> first | exact .one _ | exact .and (.one _) | exact .no
  · unfold strOp
    split <;> first | exact .one _ | exact .and (.one _) | exact .no
  · split
    · refine .and (.and ?_)
      split <;> first | exact .one _ | exact .no
    · exact .no
  · refine .and ?_
    split
    · intro K h
      obtain ⟨b, h1, h2⟩ := aEq_det ht _ h
      exact ⟨_, h1, fun K' hk => h2 _ hk⟩
    · intro K h
      obtain ⟨b, h1, h2⟩ := aEq_det ht _ h
      exact ⟨_, h1, fun K' hk => h2 _ hk⟩
    · exact .no
/-- What floats answers one thing, and leaves memory alone. -/
theorem float_det {o : Oper} {K : A → Heap → Prop} (hf : isFloat P o = true) (h : aop P V N o F H K) : ∃ x, K x H ∧ ∀ K' : A → Heap → Prop, K' x H → aop P V N o F H K' := by
  have via : ∀ {T : (A → Prop) → Prop}, Det T → T (fun y => K y H) → ∃ x, K x H ∧ ∀ K' : A → Heap → Prop, K' x H → T fun y => K' y H := fun hd ht =>
    let ⟨y, h1, h2⟩ := hd _ ht
    ⟨y, h1, fun K' hk => h2 _ hk⟩
  obtain ⟨dst, op, ty, pos, after, guard⟩ := o
  cases op <;> simp only [isFloat, Bool.false_eq_true] at hf <;> simp only [aop, aopO] at h ⊢
  · exact ⟨_, h, fun _ h => h⟩
  · exact ⟨_, h, fun _ h => h⟩
  · split at h
    · rename_i t ht
      split at h
      · rename_i e; exact ⟨_, h, fun _ h => by rw [if_pos e]; exact h⟩
      · rename_i e; exact ⟨_, h, fun _ h => by rw [if_neg e]; exact h⟩
    · exact h.elim
  · exact via aLoad_det h
  · split at h <;> first | exact ⟨_, h, fun _ h => h⟩ | exact h.elim
  · exact via (aBin_det (by simpa using hf)) h
  · exact via aUn_det h
  · exact via aField_det h
  · exact via aFieldOf_det h
  · exact via aIndexAddr_det h
  · exact via aIndex_det h
  · split at h
    · split at h
      · exact ⟨_, h, fun _ h => h⟩
      · exact h.elim
    · exact h.elim
  · rename_i c
    unfold aCallOp at h ⊢
    split at hf
    · rename_i hc
      simp only [hc] at h ⊢
      split at h
      · obtain ⟨hl, h⟩ := h
        obtain ⟨x, h1, h2⟩ := via aLen_det h
        exact ⟨x, h1, fun K' hk => ⟨hl, h2 K' hk⟩⟩
      · exact h.elim
    · cases hf
end
end Go.Aug

/-
  The abstract layer, part Q: a region that draws its order comes to what its plan says.
-/
namespace Go.Aug
def bpreds (ops : Array Oper) (i : Nat) : List Nat :=
  match ops[i]? with
  | some o => (o.after.toList.filter (Region.binds .any)).map (·.on)
  | none => []
/-- Of each operation a mask of those that are ordered before it. -/
def ancs (ops : Array Oper) : Nat → List Nat
  | 0 => []
  | n + 1 => let acc := ancs ops n; acc ++ [(bpreds ops n).foldl (fun m p => (m ||| (1 <<< p)) ||| acc.getD p 0) 0]
/-- Is j ordered before i? -/
def before (ops : Array Oper) (n i j : Nat) : Bool := ((ancs ops n).getD i 0).testBit j
/-- What floats, and whose slot is written by nobody else, and read by what comes behind it alone. -/
def cleanB (P : Program) (ops : Array Oper) (i : Nat) : Bool :=
  match ops[i]? with
  | some o => isFloat P o && match o.dst with
    | some d => !(o.looksAt ops).contains d && (List.range ops.size).all fun k => k == i || match ops[k]? with
      | some p => (!(p.looksAt ops).contains d || before ops ops.size k i) && p.dst != some d
      | none => true
    | none => false
  | none => false
def readyL (ops : Array Oper) (EL : List Nat) (k : Nat) : Bool := !EL.contains k && (bpreds ops k).all EL.contains
def Plan.heads : Plan → Option (List Nat)
  | .done => none
  | .fl _ _ => none
  | .eff i _ _ => some [i]
  | .both p q => match p.heads, q.heads with
    | some a, some b => some (a ++ b)
    | _, _ => none
def cov (ops : Array Oper) (EL : List Nat) (p : Plan) : Bool :=
  match p.heads with
  | none => true
  | some hs => (List.range ops.size).all fun k => !readyL ops EL k || hs.contains k
def chkOK (P : Program) (ops : Array Oper) (EL : List Nat) (i : Nat) (chk : List Nat) : Bool :=
  EL.all fun j => before ops ops.size i j || !cleanB P ops j || match ops[j]?, ops[i]? with
    | some oj, some oi => (!looksIn oj || chk.contains j) && match oi.dst with
      | some d => !(oj.looksAt ops).contains d
      | none => true
    | _, _ => false
def planOK (P : Program) (ops : Array Oper) : List Nat → Plan → Bool
  | EL, .done => (List.range ops.size).all EL.contains
  | EL, .fl i rest => decide (i < ops.size) && readyL ops EL i && cleanB P ops i && cov ops (i :: EL) rest && planOK P ops (i :: EL) rest
  | EL, .eff i chk rest => decide (i < ops.size) && readyL ops EL i && chkOK P ops EL i chk && cov ops (i :: EL) rest && planOK P ops (i :: EL) rest
  | EL, .both p q => p.heads.isSome && q.heads.isSome && planOK P ops EL p && planOK P ops EL q
section
variable {P : Program} {V : Env} {N : Nat} {ds : List Deferred} {ops : Array Oper}
theorem guardK_cases {F : Nat → A} {o : Oper} {yes no : Prop} (h : guardK F N ops o yes no) : (yes ∧ ∀ y n : Prop, y → guardK F N ops o y n) ∨ (no ∧ ∀ y n : Prop, n → guardK F N ops o y n) := by
  unfold guardK at h ⊢
  split at h
  · exact .inl ⟨h, fun _ _ h => h⟩
  · split at h
    · split at h
      · split at h
        · rename_i hd
          simp only [hd, if_true]
          split at h
          · split at h
            · rename_i e; exact .inl ⟨h, fun _ _ h => by rw [if_pos e]; exact h⟩
            · rename_i e; exact .inr ⟨h, fun _ _ h => by rw [if_neg e]; exact h⟩
          · exact .inr ⟨h, fun _ _ h => h⟩
          · exact h.elim
        · exact h.elim
      · exact h.elim
    · exact h.elim
theorem guardK_congr {F F' : Nat → A} {o : Oper} {yes no : Prop} (h : ∀ t ∈ o.looksAt ops, F t = F' t) : guardK F N ops o yes no = guardK F' N ops o yes no := by
  unfold guardK
  split
  · rfl
  · rename_i j want hg
    split
    · rename_i p hp
      split
      · rename_i d hd
        have : F d = F' d := h d (by simp [Oper.looksAt, hg, hp, hd])
        rw [this]
      · rfl
    · rfl
theorem ev_looks {F F' : Nat → A} {o : Oper} (h : ∀ t ∈ o.looksAt ops, F t = F' t) : ∀ x ∈ o.op.operands, ev V N F x = ev V N F' x := by
  intro x hx
  refine ev_congr ?_
  rintro t rfl
  refine h t ?_
  simp only [Oper.looksAt, List.mem_append, List.mem_filterMap]
  exact .inl ⟨.tmp t, by simpa using hx, rfl⟩
/-- What a floating operation has left it would leave still. -/
def Stab (P : Program) (V : Env) (N : Nat) (ops : Array Oper) (F : Nat → A) (H : Heap) (j : Nat) : Prop :=
  ∀ o d, ops[j]? = some o → o.dst = some d → guardK F N ops o (∀ K' : A → Heap → Prop, K' (F d) H → aop P V N o F H K') (F d = .tup [])
def Ord (ops : Array Oper) : List Nat → Prop
  | [] => True
  | i :: EL => (∀ p ∈ bpreds ops i, p ∈ EL) ∧ i ∉ EL ∧ Ord ops EL
structure Inv (P : Program) (V : Env) (N : Nat) (ds : List Deferred) (ops : Array Oper) (L : Array Bool) (EL : List Nat) (F : Nat → A) (H : Heap) (Z : Nat → Prop) (a : Act) (w : World) : Prop where
  size : L.size = ops.size
  lsub : ∀ i, L.getD i false = true → i ∈ EL
  esub : ∀ i ∈ EL, i < ops.size
  closed : ∀ i, L.getD i false = true → ∀ p ∈ bpreds ops i, L.getD p false = true
  ord : Ord ops EL
  pend : ∀ i ∈ EL, L.getD i false = false → cleanB P ops i = true ∧ Stab P V N ops F H i
  st : ∃ F', St V N ds Z F' H a w ∧ ∀ d, (∀ j ∈ EL, L.getD j false = false → ∀ o, ops[j]? = some o → o.dst ≠ some d) → F' d = F d
theorem ready_iff {L : Array Bool} (hs : L.size = ops.size) {j : Nat} : j ∈ Region.ready .any ops L ↔ j < ops.size ∧ L.getD j false = false ∧ ∀ p ∈ bpreds ops j, L.getD p false = true := by
  rw [mem_ready]
  constructor
  · rintro ⟨h0, o, ho, hall⟩
    have hj : j < ops.size := (Array.getElem?_eq_some_iff.1 ho).1
    refine ⟨hj, ?_, ?_⟩
    · simp only [Array.getD_eq_getD_getElem?] at h0 ⊢
      rw [Array.getElem?_eq_getElem (by omega)] at h0 ⊢
      exact h0
    · intro p hp
      simp only [bpreds, ho, List.mem_map, List.mem_filter] at hp
      obtain ⟨e, ⟨he, hb⟩, rfl⟩ := hp
      exact hall e (by simpa using he) hb
  · rintro ⟨hj, h0, hall⟩
    refine ⟨?_, ops[j], Array.getElem?_eq_getElem hj, ?_⟩
    · simp only [Array.getD_eq_getD_getElem?] at h0 ⊢
      rw [Array.getElem?_eq_getElem (by omega)] at h0 ⊢
      exact h0
    · intro e he hb
      refine hall e.on ?_
      simp only [bpreds, Array.getElem?_eq_getElem hj, List.mem_map, List.mem_filter]
      exact ⟨e, ⟨by simpa using he, hb⟩, rfl⟩
theorem ancs_length (ops : Array Oper) : ∀ n, (ancs ops n).length = n
  | 0 => rfl
  | n + 1 => by simp [ancs, ancs_length ops n]
theorem fold_bits {acc : List Nat} {S : Nat → Prop} (hacc : ∀ p j, (acc.getD p 0).testBit j = true → S p → S j) : ∀ (l : List Nat) (m j : Nat), (l.foldl (fun m p => (m ||| (1 <<< p)) ||| acc.getD p 0) m).testBit j = true →
    (∀ p ∈ l, S p) → m.testBit j = true ∨ S j
  | [], m, j, h, _ => .inl h
  | p :: l, m, j, h, hp => by
    rcases fold_bits hacc l _ j h (fun q hq => hp q (.tail _ hq)) with h1 | h1
    · simp only [Nat.testBit_or, Bool.or_eq_true] at h1
      rcases h1 with (h1 | h1) | h1
      · exact .inl h1
      · right
        have : p = j := by
          simp only [Nat.testBit_shiftLeft, Bool.and_eq_true, decide_eq_true_eq] at h1
          have h2 := h1.2
          have : j - p = 0 := by
            rcases Nat.eq_zero_or_pos (j - p) with h0 | h0
            · exact h0
            · rw [Nat.testBit_one_eq_true_iff_self_eq_zero] at h2; exact h2
          omega
        rw [← this]; exact hp p (.head _)
      · exact .inr (hacc p j h1 (hp p (.head _)))
    · exact .inr h1
theorem ancs_mem {ops : Array Oper} {S : Nat → Prop} (hc : ∀ i, S i → ∀ p ∈ bpreds ops i, S p) : ∀ (n i j : Nat), ((ancs ops n).getD i 0).testBit j = true → (∀ p ∈ bpreds ops i, S p) → S j
  | 0, i, j, h, _ => by simp [ancs] at h
  | n + 1, i, j, h, hp => by
    simp only [ancs] at h
    have ih := ancs_mem hc n
    have hl := ancs_length ops n
    rw [List.getD_eq_getElem?_getD] at h
    by_cases e : i < n
    · rw [List.getElem?_append_left (by omega), ← List.getD_eq_getElem?_getD] at h
      exact ih i j h hp
    · rw [List.getElem?_append_right (by omega), hl] at h
      by_cases e2 : i = n
      · subst e2
        rw [Nat.sub_self] at h
        simp only [List.getElem?_cons_zero, Option.getD_some] at h
        rcases fold_bits (S := S) (fun p j hb hS => ih p j hb (hc p hS)) _ _ j h hp with h1 | h1
        · simp at h1
        · exact h1
      · rw [List.getElem?_eq_none (by simp; omega)] at h
        simp at h
theorem before_mem {S : Nat → Prop} (hc : ∀ i, S i → ∀ p ∈ bpreds ops i, S p) (n i j : Nat) (h : before ops n i j = true) (hp : ∀ p ∈ bpreds ops i, S p) : S j := ancs_mem hc n i j h hp
theorem Ord.closed : ∀ {EL : List Nat}, Ord ops EL → ∀ i ∈ EL, ∀ p ∈ bpreds ops i, p ∈ EL
  | i :: EL, h, k, hk, p, hp => by
    rcases List.mem_cons.1 hk with rfl | hk
    · exact .tail _ (h.1 p hp)
    · exact .tail _ (h.2.2.closed k hk p hp)
theorem clean_spec {i : Nat} (h : cleanB P ops i = true) : ∃ o d, ops[i]? = some o ∧ isFloat P o = true ∧ o.dst = some d ∧ d ∉ o.looksAt ops ∧
    ∀ k p, ops[k]? = some p → k ≠ i → (d ∈ p.looksAt ops → before ops ops.size k i = true) ∧ p.dst ≠ some d := by
  unfold cleanB at h
  split at h
  · rename_i o ho
    simp only [Bool.and_eq_true] at h
    obtain ⟨hf, h⟩ := h
    split at h
    · rename_i d hd
      simp only [Bool.and_eq_true, Bool.not_eq_true', List.all_eq_true, List.mem_range, Bool.or_eq_true, beq_iff_eq] at h
      obtain ⟨h1, h2⟩ := h
      refine ⟨o, d, ho, hf, hd, by simpa using h1, ?_⟩
      intro k p hk hne
      have hlt : k < ops.size := (Array.getElem?_eq_some_iff.1 hk).1
      have := (h2 k hlt).resolve_left hne
      rw [hk] at this
      simp only [Bool.and_eq_true, Bool.or_eq_true, Bool.not_eq_true', bne_iff_ne] at this
      exact ⟨fun hm => this.1.resolve_left (by simpa using hm), this.2⟩
    · cases h
  · cases h
/-- Something that waits may come next. -/
theorem Inv.next {L : Array Bool} (hs : L.size = ops.size) : ∀ {EL : List Nat}, Ord ops EL → (∀ i ∈ EL, i < ops.size) → (∃ i ∈ EL, L.getD i false = false) → ∃ j ∈ EL, j ∈ Region.ready .any ops L
  | [], _, _, ⟨i, hi, _⟩ => by simp at hi
  | i :: EL, ho, hl, ⟨k, hk, hu⟩ => by
    by_cases h : ∃ i ∈ EL, L.getD i false = false
    · obtain ⟨j, hj, hr⟩ := Inv.next hs ho.2.2 (fun i hi => hl i (.tail _ hi)) h
      exact ⟨j, .tail _ hj, hr⟩
    · have hall : ∀ x ∈ EL, L.getD x false = true := fun x hx => by
        cases e : L.getD x false with
        | true => rfl
        | false => exact absurd ⟨x, hx, e⟩ h
      have : k = i := by
        rcases List.mem_cons.1 hk with e | hk
        · exact e
        · rw [hall k hk] at hu; cases hu
      subst this
      exact ⟨k, .head _, (ready_iff hs).2 ⟨hl k (.head _), hu, fun p hp => hall p (ho.1 p hp)⟩⟩
/-- How many have not been done. -/
def remN (ops : Array Oper) (L : Array Bool) : Nat := (List.range ops.size).countP fun i => !L.getD i false
theorem countP_lt {p q : Nat → Bool} : ∀ (l : List Nat) (i : Nat), i ∈ l → p i = true → q i = false → (∀ x, q x = true → p x = true) → l.countP q < l.countP p
  | x :: l, i, hi, hp, hq, hle => by
    simp only [List.countP_cons]
    rcases List.mem_cons.1 hi with rfl | hi
    · have := List.countP_mono_left (l := l) (fun y _ => hle y)
      simp [hp, hq]; omega
    · have := countP_lt l i hi hp hq hle
      have hx : (if q x = true then 1 else 0) ≤ (if p x = true then 1 else 0) := by
        by_cases e : q x = true
        · simp [e, hle x e]
        · simp [e]
      omega
theorem getD_set {L : Array Bool} {i k : Nat} (hi : i < L.size) : (L.setIfInBounds i true).getD k false = if k = i then true else L.getD k false := by
  simp only [Array.getD_eq_getD_getElem?, Array.getElem?_setIfInBounds]
  by_cases e : k = i
  · subst e; simp [hi]
  · simp [e, Ne.symm e]
theorem remN_set {L : Array Bool} {i : Nat} (hs : L.size = ops.size) (hi : i < ops.size) (hu : L.getD i false = false) : remN ops (L.setIfInBounds i true) < remN ops L := by
  refine countP_lt _ i (List.mem_range.2 hi) (by simpa using hu) (by simp [getD_set (show i < L.size by omega)]) ?_
  intro x hx
  rw [getD_set (by omega)] at hx
  by_cases e : x = i
  · simp [e] at hx
  · simpa [e] using hx
theorem remN_zero {L : Array Bool} (h : remN ops L = 0) : ∀ i, i < ops.size → L.getD i false = true := by
  intro i hi
  have := List.countP_eq_zero.1 h i (List.mem_range.2 hi)
  simpa using this
/-- One operation is done. -/
theorem wpOp_go {Q : Exit → Act → World → Prop} {i : Nat} {o : Oper} {F : Nat → A} {H : Heap} {Z : Nat → Prop} {a : Act} {w : World} {K1 : A → Heap → Prop} {no : Prop} {next : Act → World → Prop} (hi : ops[i]? = some o)
    (s : St V N ds Z F H a w) (h : guardK F N ops o (aop P V N o F H K1) no)
    (h1 : ∀ x v Z' H' w', RepA V w' Z' v x → Mem V Z' H' w' → Ext Z H w Z' H' w' → K1 x H' → next (a.put o.dst v) w') (h2 : no → next (a.put o.dst undef) w) : wpOp P ops Q i next a w := by
  unfold wpOp
  simp only [hi]
  rcases guardK_sound s h with ⟨hw, h⟩ | ⟨hw, h⟩
  · rw [if_pos hw]
    exact .inl (aop_sound s h h1)
  · rw [if_neg (by simp [hw])]
    exact h2 h
/-- The state that the region is in agrees on all that an operation looks at that may come next. -/
theorem Inv.agree {L : Array Bool} {EL : List Nat} {F : Nat → A} {H : Heap} {Z : Nat → Prop} {a : Act} {w : World} (v : Inv P V N ds ops L EL F H Z a w) {i : Nat} {o : Oper} (hi : ops[i]? = some o)
    (hp : ∀ p ∈ bpreds ops i, L.getD p false = true) {F' : Nat → A} (hF : ∀ d, (∀ j ∈ EL, L.getD j false = false → ∀ o, ops[j]? = some o → o.dst ≠ some d) → F' d = F d) : ∀ t ∈ o.looksAt ops, F' t = F t := by
  intro t ht
  refine hF t ?_
  intro j hj hu oj hoj hd
  obtain ⟨hc, _⟩ := v.pend j hj hu
  obtain ⟨o', d, ho', _, hd', hself, hcl⟩ := clean_spec hc
  rw [hoj] at ho'; cases ho'
  rw [hd] at hd'; cases hd'
  by_cases e : i = j
  · subst e
    rw [hi] at hoj; cases hoj
    exact hself ht
  · have := before_mem (S := fun k => L.getD k false = true) v.closed _ i j ((hcl i o hi e).1 ht) hp
    rw [this] at hu; cases hu
/-- One that waited is done. -/
theorem Inv.step_pend {Q : Exit → Act → World → Prop} {L : Array Bool} {EL : List Nat} {F : Nat → A} {H : Heap} {Z : Nat → Prop} {a : Act} {w : World} (v : Inv P V N ds ops L EL F H Z a w) {i : Nat} (hiE : i ∈ EL)
    (hr : i ∈ Region.ready .any ops L) {next : Act → World → Prop}
    (hn : ∀ Z' a' w', Inv P V N ds ops (L.setIfInBounds i true) EL F H Z' a' w' → Ext Z H w Z' H w' → next a' w') : wpOp P ops Q i next a w := by
  obtain ⟨hlt, hu, hp⟩ := (ready_iff v.size).1 hr
  obtain ⟨hc, hst⟩ := v.pend i hiE hu
  obtain ⟨o, d, hio, hf, hd, hself, hcl⟩ := clean_spec hc
  obtain ⟨F', s, hF⟩ := v.st
  have hag := v.agree hio hp hF
  have hst := hst o d hio hd
  have hset : ∀ k, (L.setIfInBounds i true).getD k false = if k = i then true else L.getD k false := fun k => getD_set (by rw [v.size]; exact hlt)
  have fin : ∀ (x : A) (u : Value) Z' w', RepA V w' Z' u x → Mem V Z' H w' → Ext Z H w Z' H w' → x = F d → next (a.put o.dst u) w' := by
    rintro x u Z' w' rx m' x' rfl
    refine hn Z' _ w' ⟨by simp [v.size], ?_, v.esub, ?_, v.ord, ?_, putF F' o.dst (F d), s.put (s.mem.keeps x') m' rx, ?_⟩ x'
    · intro k hk
      rw [hset] at hk
      by_cases e : k = i
      · rw [e]; exact hiE
      · rw [if_neg e] at hk; exact v.lsub k hk
    · intro k hk p hpk
      rw [hset] at hk ⊢
      by_cases e : k = i
      · subst e
        split
        · rfl
        · exact hp p hpk
      · rw [if_neg e] at hk
        split
        · rfl
        · exact v.closed k hk p hpk
    · intro k hk hku
      rw [hset] at hku
      by_cases e : k = i
      · simp [e] at hku
      · rw [if_neg e] at hku; exact v.pend k hk hku
    · intro d' hd'
      rw [hd]
      simp only [putF, updF]
      by_cases e : d' = d
      · rw [if_pos e, e]
      · rw [if_neg e]
        refine hF d' ?_
        intro j hj hju oj hoj hdj
        by_cases ej : j = i
        · subst ej; rw [hio] at hoj; cases hoj; rw [hd] at hdj; cases hdj; exact e rfl
        · exact hd' j hj (by rw [hset, if_neg ej]; exact hju) oj hoj hdj
  have hg : guardK F' N ops o (aop P V N o F' H fun y H' => y = F d ∧ H' = H) (F d = .tup []) := by
    rw [guardK_congr hag]
    rcases guardK_cases hst with ⟨h1, h2⟩ | ⟨h1, h2⟩
    · refine h2 _ _ ?_
      rw [aop_congr (ev_looks hag)]
      exact h1 _ ⟨rfl, rfl⟩
    · exact h2 _ _ h1
  refine wpOp_go hio s hg ?_ ?_
  · rintro x u Z' H' w' rx m' x' ⟨e, rfl⟩
    exact fin x u Z' w' rx m' x' e
  · intro e
    exact fin (.tup []) undef Z w rep_skip s.mem (.refl ..) e.symm
end
end Go.Aug

/-
  The abstract layer, part R: a region that draws its order comes to what its plan says, ended.
-/
namespace Go.Aug
section
variable {P : Program} {V : Env} {N : Nat} {ds : List Deferred} {ops : Array Oper}
/-- What floats is told ahead of time. -/
theorem Inv.float {L : Array Bool} {EL : List Nat} {F : Nat → A} {H : Heap} {Z : Nat → Prop} {a : Act} {w : World} (v : Inv P V N ds ops L EL F H Z a w) {i : Nat} {o : Oper} {d : Tmp} (hio : ops[i]? = some o) (hd : o.dst = some d)
    (hr : readyL ops EL i = true) (hc : cleanB P ops i = true) {x : A} (hst : guardK F N ops o (∀ K' : A → Heap → Prop, K' x H → aop P V N o F H K') (x = .tup [])) :
    Inv P V N ds ops L (i :: EL) (putF F o.dst x) H Z a w := by
  obtain ⟨o', d', ho', hf, hd', hself, hcl⟩ := clean_spec hc
  rw [hio] at ho'; cases ho'
  rw [hd] at hd'; cases hd'
  simp only [readyL, Bool.and_eq_true, Bool.not_eq_true', List.all_eq_true] at hr
  have hnE : i ∉ EL := by simpa using hr.1
  have hpE : ∀ p ∈ bpreds ops i, p ∈ EL := fun p hp => by simpa using hr.2 p hp
  have hne : ∀ t, t ≠ d → putF F o.dst x t = F t := fun t ht => by simp [hd, putF, updF, ht]
  have hlt : i < ops.size := (Array.getElem?_eq_some_iff.1 hio).1
  have hnL : L.getD i false = false := by
    cases e : L.getD i false with
    | false => rfl
    | true => exact absurd (v.lsub i e) hnE
  refine ⟨v.size, fun k hk => .tail _ (v.lsub k hk), ?_, v.closed, ⟨hpE, hnE, v.ord⟩, ?_, ?_⟩
  · intro k hk
    rcases List.mem_cons.1 hk with rfl | hk
    · exact hlt
    · exact v.esub k hk
  · intro k hk hu
    rcases List.mem_cons.1 hk with rfl | hk
    · refine ⟨hc, ?_⟩
      intro o2 d2 ho2 hd2
      rw [hio] at ho2; cases ho2
      rw [hd] at hd2; cases hd2
      have hag : ∀ t ∈ o.looksAt ops, putF F o.dst x t = F t := fun t ht => hne t (fun e => hself (e ▸ ht))
      have hx : putF F o.dst x d = x := by simp [hd, putF, updF]
      rw [guardK_congr hag]
      rcases guardK_cases hst with ⟨h1, h2⟩ | ⟨h1, h2⟩
      · refine h2 _ _ fun K' hk => ?_
        rw [hx] at hk
        rw [aop_congr (ev_looks hag)]
        exact h1 K' hk
      · exact h2 _ _ (by rw [hx]; exact h1)
    · obtain ⟨hck, hsk⟩ := v.pend k hk hu
      refine ⟨hck, ?_⟩
      intro ok dk hok hdk
      have hki : k ≠ i := fun e => hnE (e ▸ hk)
      obtain ⟨hrd, hwd⟩ := hcl k ok hok hki
      have hdne : dk ≠ d := fun e => hwd (e ▸ hdk)
      have hag : ∀ t ∈ ok.looksAt ops, putF F o.dst x t = F t := by
        intro t ht
        refine hne t ?_
        rintro rfl
        exact hnE (before_mem (S := (· ∈ EL)) v.ord.closed _ k i (hrd ht) (v.ord.closed k hk))
      have := hsk ok dk hok hdk
      rw [guardK_congr hag, hne dk hdne]
      rcases guardK_cases this with ⟨h1, h2⟩ | ⟨h1, h2⟩
      · refine h2 _ _ fun K' hk => ?_
        rw [aop_congr (ev_looks hag)]
        exact h1 K' hk
      · exact h2 _ _ h1
  · obtain ⟨F', s, hF⟩ := v.st
    refine ⟨F', s, ?_⟩
    intro t ht
    have htd : t ≠ d := by
      rintro rfl
      exact ht i (.head _) hnL o hio hd
    rw [hne t htd]
    exact hF t fun j hj hu => ht j (.tail _ hj) hu
/-- One that acts is done. -/
theorem Inv.step_eff {Q : Exit → Act → World → Prop} {L : Array Bool} {EL : List Nat} {F : Nat → A} {H : Heap} {Z : Nat → Prop} {a : Act} {w : World} (v : Inv P V N ds ops L EL F H Z a w) {i : Nat} {o : Oper} (hio : ops[i]? = some o)
    (hr : i ∈ Region.ready .any ops L) (hrE : readyL ops EL i = true) {chk : List Nat} (hchk : chkOK P ops EL i chk = true) {G : (Nat → A) → Heap → Prop} {no : Prop}
    (h : guardK F N ops o (aop P V N o F H fun x H' => again P V N ops (putF F o.dst x) H' chk ∧ G (putF F o.dst x) H') no) (hno : no → G (putF F o.dst (.tup [])) H) {next : Act → World → Prop}
    (hn : ∀ F2 Z' H' a' w', Inv P V N ds ops (L.setIfInBounds i true) (i :: EL) F2 H' Z' a' w' → Ext Z H w Z' H' w' → G F2 H' → next a' w') : wpOp P ops Q i next a w := by
  obtain ⟨hlt, hu, hp⟩ := (ready_iff v.size).1 hr
  obtain ⟨F', s, hF⟩ := v.st
  have hag := v.agree hio hp hF
  simp only [readyL, Bool.and_eq_true, Bool.not_eq_true', List.all_eq_true] at hrE
  have hnE : i ∉ EL := by simpa using hrE.1
  have hpE : ∀ p ∈ bpreds ops i, p ∈ EL := fun p hp => by simpa using hrE.2 p hp
  have hset : ∀ k, (L.setIfInBounds i true).getD k false = if k = i then true else L.getD k false := fun k => getD_set (by rw [v.size]; exact hlt)
  -- what waits is told still
  have keepSt : ∀ (x : A) (H' : Heap), (H' = H ∨ again P V N ops (putF F o.dst x) H' chk) → ∀ k ∈ EL, L.getD k false = false → Stab P V N ops (putF F o.dst x) H' k := by
    intro x H' hH k hk hku ok dk hok hdk
    obtain ⟨hck, hsk⟩ := v.pend k hk hku
    obtain ⟨o', d', ho', hf, hd', hself, hcl⟩ := clean_spec hck
    rw [hok] at ho'; cases ho'
    rw [hdk] at hd'; cases hd'
    have hki : i ≠ k := fun e => hnE (e ▸ hk)
    have hbef : before ops ops.size i k = false := by
      cases e : before ops ops.size i k with
      | false => rfl
      | true => rw [before_mem (S := fun k => L.getD k false = true) v.closed _ i k e hp] at hku; cases hku
    have hch := List.all_eq_true.1 hchk k hk
    rw [hbef, hck, hok, hio] at hch
    simp only [Bool.false_or, Bool.not_true, Bool.and_eq_true] at hch
    obtain ⟨hch1, hch2⟩ := hch
    have hdst : ∀ d, o.dst = some d → d ≠ dk ∧ d ∉ ok.looksAt ops := by
      intro d hd
      refine ⟨fun e => (hcl i o hio hki).2 (by rw [hd, e]), ?_⟩
      rw [hd] at hch2
      simpa using hch2
    have hag2 : ∀ t ∈ ok.looksAt ops, putF F o.dst x t = F t := by
      intro t ht
      cases hd : o.dst with
      | none => rfl
      | some d => simp only [putF, updF]; rw [if_neg (fun (e : t = d) => (hdst d hd).2 (e ▸ ht))]
    have hdk2 : putF F o.dst x dk = F dk := by
      cases hd : o.dst with
      | none => rfl
      | some d => simp only [putF, updF]; rw [if_neg (fun (e : dk = d) => (hdst d hd).1 e.symm)]
    have hs := hsk ok dk hok hdk
    by_cases hl : looksIn ok = true ∧ H' ≠ H
    · -- looks into memory: asked again
      have hmem : k ∈ chk := by
        have := hch1
        rw [hl.1] at this
        simpa using this
      have hag3 := hH.resolve_left hl.2
      have : ∀ (l : List Nat), k ∈ l → again P V N ops (putF F o.dst x) H' l → guardK (putF F o.dst x) N ops ok (aop P V N ok (putF F o.dst x) H' fun y _ => y = putF F o.dst x dk) (putF F o.dst x dk = .tup []) := by
        intro l
        induction l with
        | nil => intro h; simp at h
        | cons j js ih =>
          intro hm ha
          simp only [again] at ha
          rcases List.mem_cons.1 hm with rfl | hm
          · have := ha.1
            rw [hok] at this
            simp only [hdk] at this
            exact this
          · exact ih hm ha.2
      rcases guardK_cases (this chk hmem hag3) with ⟨h1, h2⟩ | ⟨h1, h2⟩
      · refine h2 _ _ fun K' hk => ?_
        obtain ⟨y, rfl, hy⟩ := float_det hf h1
        exact hy K' hk
      · exact h2 _ _ h1
    · rw [guardK_congr hag2, hdk2]
      rcases guardK_cases hs with ⟨h1, h2⟩ | ⟨h1, h2⟩
      · refine h2 _ _ fun K' hk => ?_
        rw [aop_congr (ev_looks hag2)]
        by_cases e : H' = H
        · subst e; exact h1 K' hk
        · have hli : looksIn ok = false := by
            cases e2 : looksIn ok with
            | false => rfl
            | true => exact absurd ⟨e2, e⟩ hl
          have := h1 (fun y _ => K' y H') hk
          -- it doesn't look into memory
          obtain ⟨dst, op, ty, pos, after, guard⟩ := ok
          cases op <;> simp only [isFloat, Bool.false_eq_true] at hf <;> simp only [looksIn, Bool.true_eq_false] at hli <;> simp only [aop, aopO] at this ⊢ <;> exact this
      · exact h2 _ _ h1
  have fin : ∀ (x : A) (u : Value) Z' H' w', RepA V w' Z' u x → Mem V Z' H' w' → Ext Z H w Z' H' w' → (H' = H ∨ again P V N ops (putF F o.dst x) H' chk) → G (putF F o.dst x) H' → next (a.put o.dst u) w' := by
    intro x u Z' H' w' rx m' x' hH hG
    refine hn (putF F o.dst x) Z' H' _ w' ⟨by simp [v.size], ?_, ?_, ?_, ⟨hpE, hnE, v.ord⟩, ?_, putF F' o.dst x, s.put (s.mem.keeps x') m' rx, ?_⟩ x' hG
    · intro k hk
      rw [hset] at hk
      by_cases e : k = i
      · rw [e]; exact .head _
      · rw [if_neg e] at hk; exact .tail _ (v.lsub k hk)
    · intro k hk
      rcases List.mem_cons.1 hk with rfl | hk
      · exact hlt
      · exact v.esub k hk
    · intro k hk p hpk
      rw [hset] at hk ⊢
      by_cases e : k = i
      · subst e
        split
        · rfl
        · exact hp p hpk
      · rw [if_neg e] at hk
        split
        · rfl
        · exact v.closed k hk p hpk
    · intro k hk hku
      rw [hset] at hku
      by_cases e : k = i
      · simp [e] at hku
      · rw [if_neg e] at hku
        have hkE : k ∈ EL := (List.mem_cons.1 hk).resolve_left e
        exact ⟨(v.pend k hkE hku).1, keepSt x H' hH k hkE hku⟩
    · intro t ht
      cases hd : o.dst with
      | none =>
        refine hF t ?_
        intro j hj hju
        exact ht j (.tail _ hj) (by rw [hset, if_neg (fun (e : j = i) => hnE (e ▸ hj))]; exact hju)
      | some d =>
        simp only [putF, updF]
        by_cases e : t = d
        · rw [if_pos e, if_pos e]
        · rw [if_neg e, if_neg e]
          refine hF t ?_
          intro j hj hju
          exact ht j (.tail _ hj) (by rw [hset, if_neg (fun (e : j = i) => hnE (e ▸ hj))]; exact hju)
  have hg : guardK F' N ops o (aop P V N o F' H fun x H' => again P V N ops (putF F o.dst x) H' chk ∧ G (putF F o.dst x) H') no := by
    rw [guardK_congr hag, aop_congr (ev_looks hag)]
    exact h
  refine wpOp_go hio s hg ?_ ?_
  · rintro x u Z' H' w' rx m' x' ⟨hag, hG⟩
    exact fin x u Z' H' w' rx m' x' (.inr hag) hG
  · intro hh
    exact fin (.tup []) undef Z H w rep_skip s.mem (.refl ..) (.inl rfl) (hno hh)
def Plan.sz : Plan → Nat
  | .done => 1
  | .fl _ rest => rest.sz + 1
  | .eff _ _ rest => rest.sz + 1
  | .both p q => p.sz + q.sz + 1
/-- What a plan that begins with what acts says of one of its heads. -/
def headAt (P : Program) (V : Env) (N : Nat) (ops : Array Oper) (EL : List Nat) (F : Nat → A) (H : Heap) (K : (Nat → A) → Heap → Prop) (i : Nat) (p : Plan) : Prop :=
  ∃ chk rest, (∀ G : Prop, (∀ q, q = Plan.eff i chk rest → G) → G) ∧ rest.sz < p.sz ∧ decide (i < ops.size) = true ∧ readyL ops EL i = true ∧ chkOK P ops EL i chk = true ∧ cov ops (i :: EL) rest = true ∧ planOK P ops (i :: EL) rest = true ∧
    ∃ o, ops[i]? = some o ∧ guardK F N ops o (aop P V N o F H fun x H' => again P V N ops (putF F o.dst x) H' chk ∧ dops P V N ops rest (putF F o.dst x) H' K) (dops P V N ops rest (putF F o.dst (.tup [])) H K)
theorem heads_at {EL : List Nat} {F : Nat → A} {H : Heap} {K : (Nat → A) → Heap → Prop} : ∀ (p : Plan) (hs : List Nat), p.heads = some hs → planOK P ops EL p = true → dops P V N ops p F H K → ∀ i ∈ hs, headAt P V N ops EL F H K i p
  | .done, hs, h, _, _, i, hi => by cases h
  | .fl _ _, hs, h, _, _, i, hi => by cases h
  | .eff j chk rest, hs, h, hok, hd, i, hi => by
    cases h
    obtain rfl : i = j := by simpa using hi
    simp only [planOK, Bool.and_eq_true] at hok
    obtain ⟨⟨⟨⟨h1, h2⟩, h3⟩, h4⟩, h5⟩ := hok
    simp only [dops] at hd
    split at hd
    · rename_i o ho
      exact ⟨chk, rest, fun G hG => hG _ rfl, by simp [Plan.sz], h1, h2, h3, h4, h5, o, ho, hd⟩
    · exact hd.elim
  | .both p q, hs, h, hok, hd, i, hi => by
    simp only [planOK, Bool.and_eq_true] at hok
    obtain ⟨⟨⟨hp, hq⟩, h1⟩, h2⟩ := hok
    obtain ⟨a, ha⟩ := Option.isSome_iff_exists.1 hp
    obtain ⟨b, hb⟩ := Option.isSome_iff_exists.1 hq
    simp only [Plan.heads, ha, hb, Option.some.injEq] at h
    subst h
    simp only [dops] at hd
    rcases List.mem_append.1 hi with hi | hi
    · obtain ⟨chk, rest, x1, x2, x3⟩ := heads_at p a ha h1 hd.1 i hi
      exact ⟨chk, rest, x1, by simp only [Plan.sz]; omega, x3⟩
    · obtain ⟨chk, rest, x1, x2, x3⟩ := heads_at q b hb h2 hd.2 i hi
      exact ⟨chk, rest, x1, by simp only [Plan.sz]; omega, x3⟩
theorem plan_sound {Q : Exit → Act → World → Prop} {K : (Nat → A) → Heap → Prop} : ∀ (n : Nat) (p : Plan), p.sz ≤ n → ∀ {EL : List Nat} {F : Nat → A} {H : Heap}, planOK P ops EL p = true → cov ops EL p = true → dops P V N ops p F H K →
    ∀ (fuel : Nat) {L : Array Bool} {Z : Nat → Prop} {a : Act} {w : World}, remN ops L ≤ fuel → Inv P V N ds ops L EL F H Z a w →
    (∀ F' Z' H' a' w', St V N ds Z' F' H' a' w' → Ext Z H w Z' H' w' → K F' H' → Q .normal a' w') → wpAny P .any ops Q fuel L a w := by
  intro n
  induction n with
  | zero => intro p hp; cases p <;> simp [Plan.sz] at hp
  | succ n ih =>
    intro p hpn EL F H hok hcov hd fuel
    cases p with
    | fl i rest =>
      intro L Z a w hrem v hQ
      simp only [planOK, Bool.and_eq_true] at hok
      obtain ⟨⟨⟨⟨h1, h2⟩, h3⟩, h4⟩, h5⟩ := hok
      obtain ⟨o, d, hio, hf, hdst, _, _⟩ := clean_spec h3
      simp only [dops, hio] at hd
      have hle : rest.sz ≤ n := by simp only [Plan.sz] at hpn; omega
      rcases guardK_cases hd with ⟨g1, g2⟩ | ⟨g1, g2⟩
      · obtain ⟨x, k1, k2⟩ := float_det hf g1
        exact ih rest hle h5 h4 k1 fuel hrem (v.float hio hdst h2 h3 (g2 _ _ k2)) hQ
      · exact ih rest hle h5 h4 g1 fuel hrem (v.float hio hdst h2 h3 (g2 _ _ rfl)) hQ
    | done =>
      simp only [planOK, List.all_eq_true, List.mem_range] at hok
      have hall : ∀ i, i < ops.size → i ∈ EL := fun i hi => by simpa using hok i hi
      have full : ∀ {L : Array Bool} {Z : Nat → Prop} {a : Act} {w : World}, Inv P V N ds ops L EL F H Z a w → Region.ready .any ops L = [] →
          (∀ F' Z' H' a' w', St V N ds Z' F' H' a' w' → Ext Z H w Z' H' w' → K F' H' → Q .normal a' w') → Q .normal a w := by
        intro L Z a w v hr hQ
        obtain ⟨F', s, hF⟩ := v.st
        have hnone : ∀ j ∈ EL, L.getD j false = true := by
          intro j hj
          cases e : L.getD j false with
          | true => rfl
          | false =>
            obtain ⟨k, _, hk⟩ := Inv.next v.size v.ord v.esub ⟨j, hj, e⟩
            rw [hr] at hk; simp at hk
        have : F' = F := funext fun d => hF d fun j hj hu => by rw [hnone j hj] at hu; cases hu
        subst this
        exact hQ F' Z H a w s (.refl ..) hd
      induction fuel with
      | zero =>
        intro L Z a w hrem v hQ
        have hz := remN_zero (ops := ops) (L := L) (by omega)
        have hr : Region.ready .any ops L = [] := by
          cases e : Region.ready .any ops L with
          | nil => rfl
          | cons j js =>
            have := (ready_iff v.size).1 (show j ∈ Region.ready .any ops L by rw [e]; exact .head _)
            rw [hz j this.1] at this; simp at this
        exact ⟨hr, full v hr hQ⟩
      | succ fuel ihf =>
        intro L Z a w hrem v hQ
        refine ⟨fun hr => full v hr hQ, ?_⟩
        intro i hi
        obtain ⟨hlt, hu, _⟩ := (ready_iff v.size).1 hi
        refine v.step_pend (hall i hlt) hi ?_
        intro Z' a' w' v' x'
        obtain ⟨_, s0, _⟩ := v.st
        refine ihf ?_ v' fun F2 Z2 H2 a2 w2 s2 x2 k2 => hQ F2 Z2 H2 a2 w2 s2 (x'.trans s0.mem.zlt x2) k2
        have := remN_set (ops := ops) v.size hlt hu
        omega
    | eff j chk rest =>
      exact acting _ rfl hpn ih hok hcov hd fuel
    | both p q =>
      simp only [planOK, Bool.and_eq_true] at hok
      obtain ⟨a, ha⟩ := Option.isSome_iff_exists.1 hok.1.1.1
      obtain ⟨b, hb⟩ := Option.isSome_iff_exists.1 hok.1.1.2
      exact acting (a ++ b) (by simp [Plan.heads, ha, hb]) hpn ih (by simp only [planOK, Bool.and_eq_true]; exact hok) hcov hd fuel
where
  acting {Q : Exit → Act → World → Prop} {K : (Nat → A) → Heap → Prop} {n : Nat} {p : Plan} (hs : List Nat) (hh : p.heads = some hs) (hpn : p.sz ≤ n + 1)
      (ih : ∀ (p : Plan), p.sz ≤ n → ∀ {EL : List Nat} {F : Nat → A} {H : Heap}, planOK P ops EL p = true → cov ops EL p = true → dops P V N ops p F H K →
        ∀ (fuel : Nat) {L : Array Bool} {Z : Nat → Prop} {a : Act} {w : World}, remN ops L ≤ fuel → Inv P V N ds ops L EL F H Z a w →
        (∀ F' Z' H' a' w', St V N ds Z' F' H' a' w' → Ext Z H w Z' H' w' → K F' H' → Q .normal a' w') → wpAny P .any ops Q fuel L a w)
      {EL : List Nat} {F : Nat → A} {H : Heap} (hok : planOK P ops EL p = true) (hcov : cov ops EL p = true) (hd : dops P V N ops p F H K) (fuel : Nat) :
      ∀ {L : Array Bool} {Z : Nat → Prop} {a : Act} {w : World}, remN ops L ≤ fuel → Inv P V N ds ops L EL F H Z a w →
        (∀ F' Z' H' a' w', St V N ds Z' F' H' a' w' → Ext Z H w Z' H' w' → K F' H' → Q .normal a' w') → wpAny P .any ops Q fuel L a w := by
    have hat := heads_at p hs hh hok hd
    have hcov' : ∀ k, k < ops.size → readyL ops EL k = true → k ∈ hs := by
      intro k hk hr
      simp only [cov, hh, List.all_eq_true, List.mem_range] at hcov
      have := hcov k hk
      rw [hr] at this
      simpa using this
    -- some head is not done
    have hsome : ∃ i, i < ops.size ∧ readyL ops EL i = true := by
      have hne : ∀ (p : Plan) (hs : List Nat), p.heads = some hs → hs ≠ [] := by
        intro p
        induction p with
        | done => intro hs h; cases h
        | fl => intro hs h; cases h
        | eff => intro hs h; cases h; simp
        | both p q ihp ihq =>
          intro hs h
          simp only [Plan.heads] at h
          split at h
          · rename_i a b ha hb
            cases h
            have := ihp a ha
            simp [this]
          · cases h
      obtain ⟨i, hi⟩ := List.exists_mem_of_ne_nil hs (hne p hs hh)
      obtain ⟨chk, rest, _, _, h1, h2, _⟩ := hat i hi
      exact ⟨i, by simpa using h1, h2⟩
    have hnotall : ∀ {L : Array Bool} {Z : Nat → Prop} {a : Act} {w : World}, Inv P V N ds ops L EL F H Z a w → Region.ready .any ops L ≠ [] := by
      intro L Z a w v hr
      obtain ⟨i, hi, hri⟩ := hsome
      simp only [readyL, Bool.and_eq_true, Bool.not_eq_true', List.all_eq_true] at hri
      have hnE : i ∉ EL := by simpa using hri.1
      have hnone : ∀ j ∈ EL, L.getD j false = true := by
        intro j hj
        cases e : L.getD j false with
        | true => rfl
        | false =>
          obtain ⟨k, _, hk⟩ := Inv.next v.size v.ord v.esub ⟨j, hj, e⟩
          rw [hr] at hk; simp at hk
      have hu : L.getD i false = false := by
        cases e : L.getD i false with
        | false => rfl
        | true => exact absurd (v.lsub i e) hnE
      have : i ∈ Region.ready .any ops L := (ready_iff v.size).2 ⟨hi, hu, fun p hp => hnone p (by simpa using hri.2 p hp)⟩
      rw [hr] at this; simp at this
    induction fuel with
    | zero =>
      intro L Z a w hrem v hQ
      exfalso
      have hz := remN_zero (ops := ops) (L := L) (by omega)
      refine hnotall v ?_
      cases e : Region.ready .any ops L with
      | nil => rfl
      | cons j js =>
        have := (ready_iff v.size).1 (show j ∈ Region.ready .any ops L by rw [e]; exact .head _)
        rw [hz j this.1] at this; simp at this
    | succ fuel ihf =>
      intro L Z a w hrem v hQ
      refine ⟨fun hr => absurd hr (hnotall v), ?_⟩
      intro i hi
      obtain ⟨hlt, hu, hp⟩ := (ready_iff v.size).1 hi
      have hless := remN_set (ops := ops) v.size hlt hu
      obtain ⟨_, s0, _⟩ := v.st
      by_cases hiE : i ∈ EL
      · refine v.step_pend hiE hi ?_
        intro Z' a' w' v' x'
        exact ihf (by omega) v' fun F2 Z2 H2 a2 w2 s2 x2 k2 => hQ F2 Z2 H2 a2 w2 s2 (x'.trans s0.mem.zlt x2) k2
      · have hrE : readyL ops EL i = true := by
          simp only [readyL, Bool.and_eq_true, Bool.not_eq_true', List.all_eq_true]
          exact ⟨by simpa using hiE, fun p hpp => by simpa using v.lsub p (hp p hpp)⟩
        obtain ⟨chk, rest, _, hsz, _, _, h3, h4, h5, o, hio, hg⟩ := hat i (hcov' i hlt hrE)
        refine v.step_eff (G := fun F H => dops P V N ops rest F H K) hio hi hrE h3 hg (fun h => h) ?_
        intro F2 Z' H' a' w' v' x' hG
        exact ih rest (by omega) h5 h4 hG fuel (by omega) v' fun F3 Z2 H2 a2 w2 s2 x2 k2 => hQ F3 Z2 H2 a2 w2 s2 (x'.trans s0.mem.zlt x2) k2
/-- A region that draws its order. -/
theorem AWp.region_draw {id : Nat} {Q : Post} {F : Nat → A} {H : Heap} (p : Plan) (hm : P.follows .mixedOrders = true) (hok : planOK P ops [] p = true) (hcov : cov ops [] p = true)
    (h : dops P V N ops p F H (fun F H => Q .normal F H)) : AWp P V N (.region id ops true) Q F H := by
  intro ds Z a w s
  refine wp_region_any hm ?_
  obtain ⟨m', x', k⟩ := s.mem.drew
  have s' : St V N ds Z F H a w.drew := ⟨s.defers, s.size, fun i hi => (s.slots i hi).keep k, m'⟩
  have hsz : (Array.replicate ops.size false).size = ops.size := by simp
  have hget : ∀ i, (Array.replicate ops.size false).getD i false = false := by
    intro i
    simp only [Array.getD_eq_getD_getElem?, Array.getElem?_replicate]
    split <;> rfl
  refine plan_sound p.sz p (Nat.le_refl _) hok hcov h ops.size ?_ ⟨hsz, ?_, ?_, ?_, trivial, ?_, F, s', fun _ _ => rfl⟩ ?_
  · unfold remN
    exact Nat.le_trans List.countP_le_length (by simp)
  · intro i hi; rw [hget] at hi; cases hi
  · intro i hi; simp at hi
  · intro i hi; rw [hget] at hi; cases hi
  · intro i hi; simp at hi
  · intro F' Z' H' a' w' st x2 q
    exact ⟨Z', F', H', st, x'.trans s.mem.zlt x2, q⟩
end
end Go.Aug

/-
  The abstract layer, part S: code in short, and what it asks.
-/
namespace Go.Aug
/-- Two ways, into neither of which one goes before it is known which. -/
def gif (b : Bool) (x y : Prop) : Prop := if b = true then x else y
@[congr] theorem gif_congr {b b' : Bool} {x y : Prop} (h : b = b') : gif b x y = gif b' x y := by rw [h]
@[simp] theorem gif_true {x y : Prop} : gif true x y = x := if_pos rfl
@[simp] theorem gif_false {x y : Prop} : gif false x y = y := if_neg (by simp)
theorem gif_intro {b : Bool} {x y : Prop} (h1 : b = true → x) (h2 : b = false → y) : gif b x y := by
  cases b
  · exact h2 rfl
  · exact h1 rfl
structure SOper where
  dst : Option Nat
  gd : Option (Option Nat × Bool)
  op : Op
inductive SPlan where
  | no
  | done
  | fl (o : SOper) (rest : SPlan)
  | eff (o : SOper) (chk : List SOper) (rest : SPlan)
  | both (p q : SPlan)
inductive SCode where
  | no
  | skip
  | reg (keep : Option (List Nat)) (ops : List SOper)
  | dreg (keep : Option (List Nat)) (p : SPlan)
  | seq (x y : SCode)
  | cond (c : Operand) (x y : SCode)
  | block (id : Nat) (c : SCode)
  | exit (id : Nat)
  | ret
  | loop (c : SCode)
def short (ops : Array Oper) (o : Oper) : SOper := { dst := o.dst, gd := o.guard.map fun p => ((ops[p.1]?).bind (·.dst), p.2), op := o.op }
def shorts (ops : Array Oper) : List Nat → List SOper
  | [] => []
  | i :: l => match ops[i]? with
    | some o => short ops o :: shorts ops l
    | none => []
def Plan.short (ops : Array Oper) : Plan → SPlan
  | .done => .done
  | .fl i rest => match ops[i]? with
    | some o => .fl (Aug.short ops o) (rest.short ops)
    | none => .no
  | .eff i chk rest => match ops[i]? with
    | some o => .eff (Aug.short ops o) (shorts ops chk) (rest.short ops)
    | none => .no
  | .both p q => .both (p.short ops) (q.short ops)
def toS (plans : Nat → Plan) (keeps : Nat → Option (List Nat)) : Code → SCode
  | .skip => .skip
  | .seq x y => .seq (toS plans keeps x) (toS plans keeps y)
  | .region id ops false => .reg (keeps id) (ops.toList.map (short ops))
  | .region id ops true => .dreg (keeps id) ((plans id).short ops)
  | .cond c x y => .cond c (toS plans keeps x) (toS plans keeps y)
  | .block id c => .block id (toS plans keeps c)
  | .exit id => .exit id
  | .ret => .ret
  | .loop c => .loop (toS plans keeps c)
  | _ => .no
def plansOK (P : Program) (plans : Nat → Plan) : Code → Bool
  | .seq x y => plansOK P plans x && plansOK P plans y
  | .region id ops true => planOK P ops [] (plans id) && cov ops [] (plans id)
  | .cond _ x y => plansOK P plans x && plansOK P plans y
  | .block _ c => plansOK P plans c
  | .loop c => plansOK P plans c
  | _ => true
def keepL (F : Nat → A) : List Nat → Nat → A
  | [] => fun _ => .undef
  | s :: l => updF (keepL F l) s (F s)
def keepF (F : Nat → A) : Option (List Nat) → Nat → A
  | none => F
  | some l => keepL F l
def FrameIs (F : Nat → A) : List (Nat × A) → Prop
  | [] => True
  | (s, x) :: l => F s = x ∧ FrameIs F l
def sguard (N : Nat) (F : Nat → A) (o : SOper) (yes no : Prop) : Prop :=
  match o.gd with
  | none => yes
  | some (some d, want) => if d < N then match F d with
    | .d (.bool b) => match want with
      | true => gif b yes no
      | false => gif b no yes
    | .tup [] => no
    | _ => False
    else False
  | some (none, _) => False
def sops (P : Program) (V : Env) (N : Nat) : List SOper → (Nat → A) → Heap → ((Nat → A) → Heap → Prop) → Prop
  | [], F, H, K => K F H
  | o :: rest, F, H, K => sguard N F o (aopO P V N o.op F H fun x H' => sops P V N rest (putF F o.dst x) H' K) (sops P V N rest (putF F o.dst (.tup [])) H K)
def sagain (P : Program) (V : Env) (N : Nat) (F : Nat → A) (H : Heap) : List SOper → Prop
  | [] => True
  | o :: js => (match o.dst with
    | some d => sguard N F o (aopO P V N o.op F H fun y _ => y = F d) (F d = .tup [])
    | none => False) ∧ sagain P V N F H js
def sdops (P : Program) (V : Env) (N : Nat) : SPlan → (Nat → A) → Heap → ((Nat → A) → Heap → Prop) → Prop
  | .no, _, _, _ => False
  | .done, F, H, K => K F H
  | .fl o rest, F, H, K => sguard N F o (aopO P V N o.op F H fun x H' => sdops P V N rest (putF F o.dst x) H' K) (sdops P V N rest (putF F o.dst (.tup [])) H K)
  | .eff o chk rest, F, H, K => sguard N F o (aopO P V N o.op F H fun x H' => sagain P V N (putF F o.dst x) H' chk ∧ sdops P V N rest (putF F o.dst x) H' K) (sdops P V N rest (putF F o.dst (.tup [])) H K)
  | .both p q, F, H, K => sdops P V N p F H K ∧ sdops P V N q F H K
/-- What code in short asks of the state ahead of it, that Q hold behind it. -/
def svc (P : Program) (V : Env) (N : Nat) : SCode → Post → (Nat → A) → Heap → Prop
  | .no, _, _, _ => False
  | .skip, Q, F, H => Q .normal F H
  | .reg k ops, Q, F, H => sops P V N ops (keepF F k) H fun F H => Q .normal F H
  | .dreg k p, Q, F, H => sdops P V N p (keepF F k) H fun F H => Q .normal F H
  | .seq x y, Q, F, H => svc P V N x (thenQ (fun F H => svc P V N y Q F H) Q) F H
  | .cond c x y, Q, F, H => match ev V N F c with
    | .d (.bool b) => gif b (svc P V N x Q F H) (svc P V N y Q F H)
    | _ => False
  | .block id c, Q, F, H => svc P V N c (inBlockQ id Q) F H
  | .exit id, Q, F, H => Q (.exit id) F H
  | .ret, Q, F, H => Q .ret F H
  | .loop c, Q, F, H => turn V N F H fun F H => ∃ (X : Type) (l : X → List (Nat × A)) (J : X → Heap → Prop) (m : X → Nat) (x0 : X) (H0 : Heap), J x0 H0 ∧ FrameIs F (l x0) ∧ LeH H0 H ∧
      ∀ x H, J x H → svc P V N c (thenQ (fun F' H' => turn V N F' H' fun F' H' => ∃ x' H'', J x' H'' ∧ m x' < m x ∧ FrameIs F' (l x') ∧ LeH H'' H') Q) (mkF (l x)) H
section
variable {P : Program} {V : Env} {N : Nat}
theorem keepF_le (F : Nat → A) (k : Option (List Nat)) : LeF (keepF F k) F := by
  cases k with
  | none => exact .refl _
  | some l =>
    simp only [keepF]
    induction l with
    | nil => exact fun _ => .inr rfl
    | cons s l ih =>
      intro i
      simp only [keepL, updF]
      split
      · rename_i e; rw [e]; exact .inl rfl
      · exact ih i
theorem FrameIs.mem {F : Nat → A} : ∀ {l : List (Nat × A)}, FrameIs F l → ∀ p ∈ l, F p.1 = p.2
  | (s, x) :: l, h, p, hp => by
    rcases List.mem_cons.1 hp with rfl | hp
    · exact h.1
    · exact h.2.mem p hp
theorem sguard_eq {ops : Array Oper} {F : Nat → A} {o : Oper} {yes no : Prop} : sguard N F (short ops o) yes no = guardK F N ops o yes no := by
  unfold sguard short guardK
  simp only
  cases hg : o.guard with
  | none => rfl
  | some p =>
    obtain ⟨j, want⟩ := p
    simp only [Option.map_some]
    cases hj : ops[j]? with
    | none => rfl
    | some q =>
      simp only [Option.bind_some]
      cases hd : q.dst with
      | none => rfl
      | some d =>
        simp only
        split
        · generalize F d = z
          cases z with
          | d x =>
            cases x with
            | bool b => cases want <;> cases b <;> simp
            | _ => rfl
          | tup l => cases l <;> rfl
          | _ => rfl
        · rfl
theorem sops_eq {ops : Array Oper} : ∀ (l : List Oper) {F : Nat → A} {H : Heap} {K : (Nat → A) → Heap → Prop}, sops P V N (l.map (short ops)) F H K = aops P V N ops l F H K
  | [], F, H, K => rfl
  | o :: l, F, H, K => by
    simp only [List.map_cons, sops, aops, sguard_eq]
    have h1 : (short ops o).dst = o.dst := rfl
    have h2 : (short ops o).op = o.op := rfl
    rw [h1, h2]
    unfold aop
    congr 1
    · congr 1
      funext x H'
      exact sops_eq l
    · exact sops_eq l
theorem sagain_eq {ops : Array Oper} {F : Nat → A} {H : Heap} : ∀ (l : List Nat), (∀ j ∈ l, j < ops.size) → sagain P V N F H (shorts ops l) = again P V N ops F H l
  | [], _ => rfl
  | j :: l, hl => by
    have hj := hl j (.head _)
    have e : ops[j]? = some ops[j] := Array.getElem?_eq_getElem hj
    simp only [shorts, e, sagain, again]
    have h1 : (short ops ops[j]).dst = ops[j].dst := rfl
    have h2 : (short ops ops[j]).op = ops[j].op := rfl
    rw [h1, h2, sagain_eq l (fun k hk => hl k (.tail _ hk))]
    congr 1
    cases ops[j].dst with
    | none => rfl
    | some d => simp only [sguard_eq]; rfl
/-- Where a plan's checks lie. -/
def Plan.inB (n : Nat) : Plan → Bool
  | .done => true
  | .fl _ rest => rest.inB n
  | .eff _ chk rest => chk.all (fun j => decide (j < n)) && rest.inB n
  | .both p q => p.inB n && q.inB n
theorem sdops_eq {ops : Array Oper} : ∀ (p : Plan), p.inB ops.size = true → ∀ {F : Nat → A} {H : Heap} {K : (Nat → A) → Heap → Prop}, sdops P V N (p.short ops) F H K = dops P V N ops p F H K
  | .done, _, _, _, _ => rfl
  | .fl i rest, hb, F, H, K => by
    simp only [Plan.inB] at hb
    simp only [Plan.short, dops]
    cases e : ops[i]? with
    | none => rfl
    | some o =>
      have h1 : (Aug.short ops o).dst = o.dst := rfl
      have h2 : (Aug.short ops o).op = o.op := rfl
      simp only [sdops, sguard_eq, h1, h2, sdops_eq rest hb]
      rfl
  | .eff i chk rest, hb, F, H, K => by
    simp only [Plan.inB, Bool.and_eq_true, List.all_eq_true, decide_eq_true_eq] at hb
    simp only [Plan.short, dops]
    cases e : ops[i]? with
    | none => rfl
    | some o =>
      have h1 : (Aug.short ops o).dst = o.dst := rfl
      have h2 : (Aug.short ops o).op = o.op := rfl
      simp only [sdops, sguard_eq, h1, h2, sdops_eq rest hb.2, sagain_eq chk hb.1]
      rfl
  | .both p q, hb, F, H, K => by
    simp only [Plan.inB, Bool.and_eq_true] at hb
    simp only [Plan.short, sdops, dops, sdops_eq p hb.1, sdops_eq q hb.2]
def codeOK (P : Program) (plans : Nat → Plan) : Code → Bool
  | .seq x y => codeOK P plans x && codeOK P plans y
  | .region id ops true => planOK P ops [] (plans id) && cov ops [] (plans id) && (plans id).inB ops.size
  | .cond _ x y => codeOK P plans x && codeOK P plans y
  | .block _ c => codeOK P plans c
  | .loop c => codeOK P plans c
  | _ => true
theorem svc_sound {plans : Nat → Plan} {keeps : Nat → Option (List Nat)} (hm : P.follows .mixedOrders = true) : ∀ (c : Code), codeOK P plans c = true → ∀ {Q : Post} {F : Nat → A} {H : Heap}, svc P V N (toS plans keeps c) Q F H → AWp P V N c Q F H := by
  intro c
  induction c with
  | skip => intro _ Q F H h; exact .skip h
  | seq x y ihx ihy =>
    intro hp Q F H h
    simp only [codeOK, Bool.and_eq_true] at hp
    refine .seq ((ihx hp.1 h).mono ?_)
    intro e F H q
    cases e with
    | normal => exact ihy hp.2 q
    | _ => exact q
  | region id ops b =>
    intro hp Q F H h
    cases b with
    | false =>
      refine AWp.le (AWp.region ?_) (keepF_le F (keeps id)) (.refl H)
      simp only [toS, svc, sops_eq] at h
      exact h
    | true =>
      simp only [codeOK, Bool.and_eq_true] at hp
      refine AWp.le (AWp.region_draw (plans id) hm hp.1.1 hp.1.2 ?_) (keepF_le F (keeps id)) (.refl H)
      simp only [toS, svc, sdops_eq _ hp.2] at h
      exact h
  | cond c x y ihx ihy =>
    intro hp Q F H h
    simp only [codeOK, Bool.and_eq_true] at hp
    simp only [toS, svc] at h
    split at h
    · rename_i b hb
      refine .cond b hb ?_
      cases b with
      | true => exact ihx hp.1 (by simpa using h)
      | false => exact ihy hp.2 (by simpa using h)
    · exact h.elim
  | block id c ih =>
    intro hp Q F H h
    exact .block (ih hp h)
  | exit id => intro _ Q F H h; exact .exit h
  | ret => intro _ Q F H h; exact .ret h
  | loop c ih =>
    intro hp Q F H h
    simp only [toS, svc] at h
    refine AWp.turn (h.mono ?_)
    rintro F H ⟨X, l, J, m, x0, H0, h0, hF, hH, round⟩
    refine .loop l J m x0 H0 h0 hF.mem hH ?_
    intro x H1 hJ
    refine (ih hp (round x H1 hJ)).mono_turn ?_
    intro e F2 H2 q
    cases e with
    | normal =>
      refine turn.mono q ?_
      rintro F' H' ⟨x', H'', a, b, c, d⟩
      exact ⟨x', H'', a, b, c.mem, d⟩
    | _ => exact turn.refl q
  | _ => intro _ Q F H h; exact h.elim
def sret (P : Program) (V : Env) (N : Nat) (rs : List ResultVar) (K : A → Heap → Prop) : Post
  | .normal, F, H | .ret, F, H => match resAll P V N F H rs with
    | some r => retW V (tupled r) H K
    | none => False
  | _, _, _ => False
/-- A function's body in short is what it is. -/
def FnIs (P : Program) (f : FuncId) (N : Nat) (rs : List ResultVar) (s : SCode) : Prop :=
  ∃ (fn : Func) (plans : Nat → Plan) (keeps : Nat → Option (List Nat)) (c : Code), P.funcs[f]? = some fn ∧ fn.ntmps = N ∧ fn.results.toList = rs ∧ fn.body = some c ∧ codeOK P plans c = true ∧ toS plans keeps c = s
theorem FnIs.mk' {f : FuncId} {rs : List ResultVar} {s : SCode} (plans : Nat → Plan) (keeps : Nat → Option (List Nat))
    (h : (P.funcs[f]?).map (fun fn => (fn.ntmps, fn.results.toList, fn.body.map fun c => (codeOK P plans c, toS plans keeps c))) = some (N, rs, some (true, s))) : FnIs P f N rs s := by
  cases hf : P.funcs[f]? with
  | none => rw [hf] at h; cases h
  | some fn =>
    rw [hf] at h
    simp only [Option.map_some, Option.some.injEq, Prod.mk.injEq] at h
    obtain ⟨h1, h2, h3⟩ := h
    cases hb : fn.body with
    | none => rw [hb] at h3; cases h3
    | some c =>
      rw [hb] at h3
      simp only [Option.map_some, Option.some.injEq, Prod.mk.injEq] at h3
      exact ⟨fn, plans, keeps, c, hf, h1, h2, hb, h3.1, h3.2⟩
theorem ACall.by {f : FuncId} {rs : List ResultVar} {s : SCode} {args : List A} {H : Heap} {K : A → Heap → Prop} (hm : P.follows .mixedOrders = true) (hf : FnIs P f N rs s) (hn : args.length ≤ N)
    (h : svc P V N s (sret P V N rs K) (argsF args) H) : ACall P V f args H K := by
  obtain ⟨fn, plans, keeps, c, h1, rfl, rfl, h4, h5, rfl⟩ := hf
  refine ACall.of h1 h4 hn ((svc_sound hm c h5 h).mono ?_)
  intro e F H q
  cases e <;> exact q
end
end Go.Aug
