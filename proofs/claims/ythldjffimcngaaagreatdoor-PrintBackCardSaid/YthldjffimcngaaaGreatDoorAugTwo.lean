/- The abstract layer: abstract values and heaps, what code does to them, the conditions of its operations as equations; no conditions of its own. -/
import Derived.Test.YthldjffimcngaaaGreatDoorAugOne
import Derived.OrdersIn
set_option linter.all false
set_option linter.unusedVariables false
set_option linter.unusedSimpArgs false
set_option linter.unusedSectionVars false

/-
  The abstract layer, part O: what a function hands back; a call out of its body.
-/
namespace Go.Aug
def zGe (P:Program) (V:Env) (N:Nat) (F:Nat→A) (H:Heap):ResultVar→Option A
  | .tmp t=>some (ev V N F (.tmp t))
  | .cell a t=>match ev V N F (.tmp a) with
    | .ref b off=>match H b,yN P t with
      | some (.var cs),some (true,n)=>if off+n≤cs.length then some (aggN ((cs.drop off).take n)) else none
      | some (.var cs),some (false,_)=>cs[off]?
      | _,_=>none
    | _=>none
def vJ (P:Program) (V:Env) (N:Nat) (F:Nat→A) (H:Heap):List ResultVar→Option (List A)
  | []=>some []
  | r::rs=>match zGe P V N F H r,vJ P V N F H rs with
    | some x,some xs=>some (x::xs)
    | _,_=>none
def jL:List A→A
  | [x]=>x
  | xs=>.tup xs
def retQ (P:Program) (V:Env) (fn:Func) (K:A→Heap→Prop) (KP:Value→Heap→Prop):Post
  | .normal,F,H | .ret,F,H=>match vJ P V fn.ntmps F H fn.results.toList with
    | some rs=>retW V (jL rs) H K
    | none=>False
  | .panic [{ v,recovered:=false,goexit:=false }],_,H=>panW V H (KP v)
  | _,_,_=>False
section
variable {P:Program} {V:Env} {N:Nat} {ds:Df} {F:Nat→A} {Z:Nat→Prop} {H:Heap} {a:Act} {w:World}
def zFy (a:Act):ResultVar→Sem Value
  | .tmp t=>pure (a.tmps.getD t undef)
  | .cell b t=>do loadVar t (←asAddr (a.tmps.getD b undef))
theorem zH3 (s:St V N ds Z F H a w) {r:ResultVar} {x:A} (h:zGe P V N F H r=some x):∃ v,(zFy a r).run P w=.ok v w∧RepA V w Z v x:=by
  cases r with
  | tmp t =>
    simp only [zGe,Option.some.injEq] at h
    subst h
    exact ⟨_,rfl,xM s (.tmp t)⟩
  | cell b t =>
    simp only [zGe] at h
    split at h
    · rename_i g off hx
      have rx:=xM s (.tmp b)
      rw [hx] at rx
      simp only [Act.eval] at rx
      generalize hv:a.tmps.getD b undef=v at rx
      cases rx
      have key:∀ K:A→Prop,xT P t (.ref g off) H K→∃ u y,(loadVar t ⟨g,off,none⟩).run P w=.ok u w∧RepA V w Z u y∧K y:=by
        intro K hK
        have:=zDU hK s.mem (.ref (V:=V) (w:=w) (Z:=Z) g off)
        simpa [Instr.loadAt,Instr.sureAddr] using this
      split at h
      · rename_i cs n hH ht
        split at h
        · rename_i hle
          cases h
          obtain ⟨u,y,h1,h2,rfl⟩:=key (fun y=>y=aggN ((cs.drop off).take n)) (by simp [xT,hH,ht,hle])
          exact ⟨u,by simpa [zFy,hv,asAddr] using h1,h2⟩
        · cases h
      · rename_i cs n hH ht
        obtain ⟨u,y,h1,h2,rfl⟩:=key (fun y=>y=x) (by simp [xT,hH,ht,h])
        exact ⟨u,by simpa [zFy,hv,asAddr] using h1,h2⟩
      · cases h
    · cases h
theorem zDh (s:St V N ds Z F H a w):∀ (l:List ResultVar) (rs:List A),vJ P V N F H l=some rs →
    ∃ vs:List Value,(l.mapM (zFy a)).run P w=.ok vs w∧vs.length=rs.length∧∀ j (h:j < vs.length) (h':j < rs.length),RepA V w Z vs[j] rs[j]
  | [],rs,h=>by simp [vJ] at h; subst h; exact ⟨[],rfl,rfl,fun j h=>by simp at h⟩
  | r::l,rs,h=>by
    simp only [vJ] at h
    split at h
    · rename_i x xs hx hxs
      cases h
      obtain ⟨v,h1,h2⟩:=zH3 s hx
      obtain ⟨vs,h3,h4,h5⟩:=zDh s l xs hxs
      refine ⟨v::vs,by rw [List.mapM_cons,Sem.run_bind,h1,Result.andThen_ok,Sem.run_bind,h3]; rfl,by simp [h4], ?_⟩
      intro j hj hj'
      cases j with
      | zero=>exact h2
      | succ j=>exact h5 j (by simpa using hj) (by simpa using hj')
    · cases h
theorem zAb {fn:Func} (s:St V N ds Z F H a w) {rs:List A} (h:vJ P V N F H fn.results.toList=some rs):∃ v,(results fn a.tmps).run P w=.ok v w∧RepA V w Z v (jL rs):=by
  obtain ⟨vs,h1,h2,h3⟩:=zDh s _ _ h
  have hm:(fn.results.mapM (m:=Sem) (zFy a)).run P w=.ok vs.toArray w:=by
    rw [Array.mapM_eq_mapM_toList,Sem.run_map,h1]; rfl
  have hres:(results fn a.tmps).run P w=.ok (if h:vs.toArray.size=1 then vs.toArray[0] else .tuple vs.toArray) w:=by
    have:results fn a.tmps=(do let vs ←fn.results.mapM (zFy a); pure (if h:vs.size=1 then vs[0] else .tuple vs):Sem Value):=by
      unfold results
      congr 2
    rw [this,Sem.run_bind,hm]
    rfl
  refine ⟨_,hres, ?_⟩
  match vs,rs,h2,h3 with
  | [],[],_,_=>exact .tup [] [] rfl (fun j h=>by simp at h)
  | [v],[x],_,h3=>exact h3 0 (by simp) (by simp)
  | v::u::vs,x::y::rs,h2,h3 =>
    simp only [List.size_toArray,List.length_cons,jL]
    rw [dif_neg (by omega)]
    exact .tup _ _ h2 h3
structure Shut (w w':World):Prop where
  os:w'.os=w.os
  tape:w'.tape=w.tape
  output:w'.output=w.output
  size:w'.heap.size=w.heap.size
  block:∀ b:Nat,w'.heap[b]?=w.heap[b]?∨(w.heap[b]?=some (Obj.deferred (some []))∧w'.heap[b]?=some (Obj.deferred none))
theorem Shut.cell {w w':World} (h:Shut w w') {b o:Nat} {v:Value} (hc:w.cell? ⟨b,o,none⟩=some v):w'.cell? ⟨b,o,none⟩=some v:=by
  rcases h.block b with e | ⟨e,_⟩
  · rw [World.cell?_of_block (w:=w) e]; exact hc
  · simp [World.cell?,e] at hc
theorem RepD.shut {v:Value} {x:D} (h:RepD V w Z v x) {w':World} (k:Shut w w'):RepD V w' Z v x:=by
  induction h with
  | int=>exact .int ..
  | bool=>exact .bool ..
  | str=>exact .str ..
  | raw v h=>exact .raw v h
  | sent g=>exact .sent g
  | empty=>exact .empty ..
  | slice b o cap es sz cv hk hz hb hs hc h1 hr ih=>exact .slice b o cap es sz cv hk hz (by rw [k.size]; exact hb) hs (fun j hj=>k.cell (hc j hj)) h1 ih
  | agg cv cs hl h1 hr ih=>exact .agg cv cs hl h1 ih
theorem RepA.shut {v:Value} {x:A} (h:RepA V w Z v x) {w':World} (k:Shut w w'):RepA V w' Z v x:=by
  induction h with
  | undef=>exact .undef ..
  | d v x h=>exact .d v x (h.shut k)
  | nils=>exact .nils
  | agg cv cs hl h1 hr ih=>exact .agg cv cs hl h1 ih
  | tup cv cs hl hr ih=>exact .tup cv cs hl ih
  | ref=>exact .ref ..
  | imm b o cs cv hz hb hc h1 hr=>exact .imm b o cs cv hz (by rw [k.size]; exact hb) (fun j hj=>k.cell (hc j hj)) h1 (fun j hj=>(hr j hj).shut k)
  | own b v h=>exact .own b v h
  | eref=>exact .eref ..
  | func f cv cs hl hr ih=>exact .func f cv cs hl ih
  | mp=>exact .mp ..
  | yld=>exact .yld ..
  | meth f bv bs hl hr ih=>exact .meth f bv bs hl ih
theorem Shut.keep {w w':World} (k:Shut w w') {b:Nat} {o:Obj} (h:w.heap[b]?=some o) (hne:o≠.deferred (some [])):w'.heap[b]?=some o:=by
  rcases k.block b with e | ⟨e,_⟩
  · rw [e,h]
  · rw [h] at e; cases e; exact absurd rfl hne
theorem ObjRep.shut {b:Nat} {o:AObj} (h:ObjRep V w Z b o) {w':World} (k:Shut w w'):ObjRep V w' Z b o:=by
  cases o with
  | var cs =>
    obtain ⟨hz,cv,T,hh,hl,h1,hr⟩:=h
    exact ⟨hz,cv,T,k.keep hh (by simp),hl,h1,fun j h h'=>(hr j h h').shut k⟩
  | arr E sz v ds =>
    obtain ⟨hz,h0,hs,hv,xs,how,hl,h1,hr⟩:=h
    refine ⟨hz,h0,hs,hv,xs,⟨how.1, ?_⟩,hl,h1,fun j h h'=>(hr j h h').shut k⟩
    rcases how.2 with ⟨rfl,_⟩ | ⟨g,cap,cur,rfl,h2,h3,h4⟩
    · simp [Value.ownBlock] at hv
    · exact .inr ⟨g,cap,cur,rfl,h2,k.keep h3 (by simp),h4⟩
  | frz v ds =>
    obtain ⟨h1,h2,c,t,z,h3⟩:=h
    exact ⟨h1.shut k,h2,c,t,z,k.keep h3 (by simp)⟩
  | map s m =>
    obtain ⟨hz,hf,es,clock,hh,hl,hr⟩:=h
    exact ⟨hz,hf,es,clock,k.keep hh (by simp),hl,fun j h h'=>⟨(hr j h h').1,(hr j h h').2.shut k⟩⟩
  | loop L N F =>
    obtain ⟨hz,hh,hn,hr⟩:=h
    exact ⟨hz,k.keep hh (by simp),hn,fun i hi=>(hr i hi).shut k⟩
theorem EnvOK.shut {w w':World} (h:EnvOK V w Z) (k:Shut w w') (hM:∀ b o,V.M b=some o→w'.heap[b]?=w.heap[b]?):EnvOK V w' Z where
  glob:=fun g x hg=>by
    obtain ⟨h1,h2,v,h3,h5,h4⟩:=h.glob g x hg
    exact ⟨h1,by rw [k.size]; exact h2,v,k.cell h3,h5,h4.shut k⟩
  sent:=fun g hg=>by
    obtain ⟨h1,h2,c,t,h3⟩:=h.sent g hg
    exact ⟨h1,by rw [k.size]; exact h2,c,t,k.keep h3 (by simp)⟩
  inj:=h.inj
  fix:=fun b o hb=>by
    obtain ⟨h1,h2,h3⟩:=h.fix b o hb
    exact ⟨h1,by rw [k.size]; exact h2,(hM b o hb).trans h3⟩
theorem Mem.shut {w w':World} (m:Mem V Z H w) (k:Shut w w') (hM:∀ b o,V.M b=some o→w'.heap[b]?=w.heap[b]?):Mem V Z H w' :=
  ⟨fun b o ho=>(m.heap b o ho).shut k,fun b hb=>by rw [k.size]; exact m.zlt b hb,m.env.shut k hM,fun b o ho=>by rw [k.size]; exact m.lt b o ho⟩
theorem zAu {fn:Func} {tmps:Array Value} {R:Ending→World→Prop} {u:FrameMode} (hu:u≠.run) {ds:List Deferred}:∀ (ms:List Nat) {w:World},ms.Nodup→(∀ D ∈ ms,D < w.heap.size∧w.heap[D]?=some (.deferred (some []))) →
    (∀ w',Shut w w'→(∀ b,b ∉ ms→w'.heap[b]?=w.heap[b]?)→LeavesInM (wQ none) 0 P fn tmps R ds u w')→LeavesInM (wQ none) 0 P fn tmps R (ms.map mark++ds) u w
  | [],w,_,_,h=>h w ⟨rfl,rfl,rfl,rfl,fun _=>.inl rfl⟩ fun _ _=>rfl
  | D::ms,w,hn,hms,h=>by
    obtain ⟨hD1,hD2⟩:=hms D (.head _)
    have hnm:=(List.nodup_cons.1 hn).1
    refine ⟨hu,.inl ⟨D,w.putObj D (.deferred none),rfl,run_takeDeferred hD2, ?_⟩⟩
    have hb:∀ b,b≠D→(w.putObj D (.deferred none)).heap[b]?=w.heap[b]?:=fun b hb=>World.putObj_heap_other hb
    have hs:(w.putObj D (.deferred none)).heap[D]?=some (.deferred none):=World.putObj_heap_same hD1
    refine zAu hu ms (List.nodup_cons.1 hn).2 (fun E hE=>?_) (fun w' k hk=>h w' ⟨k.os,k.tape,k.output,by rw [k.size]; simp,fun b=>?_⟩ fun b hbm=>?_)
    · have hne : E ≠ D := fun e => hnm (e ▸ hE)
      have:=hms E (.tail _ hE)
      exact ⟨by simpa using this.1,by rw [hb E hne]; exact this.2⟩
    · by_cases e : b = D
      · subst e
        rw [hk b hnm,hs]
        exact .inr ⟨hD2,rfl⟩
      · have := k.block b
        rw [hb b e] at this
        exact this
    · rw [hk b (fun h=>hbm (.tail _ h)),hb b (fun e=>hbm (e ▸ .head _))]
theorem St.first {fn:Func} {args:List A} (hn:args.length≤fn.ntmps) {cv:List Value} (hl:cv.length=args.length)
    (hr:∀ j (h:j < cv.length) (h':j < args.length),RepA V w Z cv[j] args[j]) (m:Mem V Z H w) :
    St V fn.ntmps ⟨[],w.heap.size⟩ Z (zBI args) H { tmps:=cv.toArray++Array.replicate (fn.ntmps - cv.toArray.size) undef,defers:=[] } w:=by
  refine ⟨.none _ (Nat.le_refl _),by simp; omega, ?_,m⟩
  intro i hi
  rw [Array.getD_eq_getD_getElem?,Array.getElem?_append]
  simp only [zBI,List.getD]
  by_cases e:i < cv.length
  · have e' : i < args.length := by omega
    simp only [List.size_toArray,e,if_true,List.getElem?_toArray,List.getElem?_eq_getElem e,List.getElem?_eq_getElem e',Option.getD_some]
    exact hr i e e'
  · rw [List.getElem?_eq_none (show args.length ≤ i by omega)]
    exact .undef _
theorem St.marks {B:Nat} {fn:Func} {R:Ending→World→Prop} {u:FrameMode} (hu:u≠.run) {ls:List Deferred} (s:St V N ⟨ls,B⟩ Z F H a w)
    (h:∀ w',St V N ⟨ls,B⟩ Z F H { a with defers:=ls } w'→(∀ {Z0:Nat→Prop} {H0:Heap} {w0:World},w0.heap.size≤B→Ext Z0 H0 w0 Z H w→Ext Z0 H0 w0 Z H w')→LeavesInM (wQ none) 0 P fn a.tmps R ls u w') :
    LeavesInM (wQ none) 0 P fn a.tmps R a.defers u w:=by
  obtain ⟨h0,ms,h1,h2,h3⟩:=s.defers
  rw [h1]
  refine zAu hu ms h2 (fun D hD=>⟨(h3 D hD).2.2.1,(h3 D hD).2.2.2.1⟩) fun w' k hk=>h w' ⟨.none _ (by rw [k.size]; exact h0),s.size,fun i hi=>(s.slots i hi).shut k,s.mem.shut k fun b o hb=>hk b fun hm=>?_⟩ ?_
  · rw [(h3 b hm).2.2.2.2] at hb; cases hb
  · intro Z0 H0 w0 hw x
    refine ⟨k.os.trans x.os,k.tape.trans x.tape,k.output.trans x.output,by rw [k.size]; exact x.size,fun b hb ho=>?_,x.znew,x.zold,x.own⟩
    rw [hk b (fun hm=>?_)]
    · exact x.block b hb ho
    · have := (h3 b hm).1
      have:B≤b:=this
      omega
abbrev zW7 (V:Env) (Z:Nat→Prop) (H:Heap) (w:World) (K:A→Heap→Prop) (KP:Value→Heap→Prop):Ending→World→Prop:=fun e w' =>
  (∃ v r Z' H',e=.returned v∧RepA V w' Z' v r∧Mem V Z' H' w'∧Ext Z H w Z' H' w'∧K r H') ∨
    (∃ v Z' H',e=.panicked [{ v,recovered:=false }]∧Mem V Z' H' w'∧Ext Z H w Z' H' w'∧KP v H')
theorem ACallP.of {f:FuncId} {fn:Func} {c:Code} {args:List A} {K:A→Heap→Prop} {KP:Value→Heap→Prop} (hf:P.funcs[f]?=some fn) (hb:fn.body=some c) (hn:args.length≤fn.ntmps)
    (h:AWp none P V fn.ntmps c (retQ P V fn K KP) (zBI args) H):ACallP P V f args H K KP:=by
  intro Z w cv hl hr m
  refine callsIn_roundF.1 (callsIn_of_wp_marks (F:=wQ none) (n:=0) hf hb trivial ?_)
  refine wpIn_mono (h _ Z _ w (St.first hn hl hr m)) ?_
  rintro e a' w' ⟨Z',F',H',s',x',q⟩
  have fin:(match vJ P V fn.ntmps F' H' fn.results.toList with
    | some rs=>retW V (jL rs) H' K
    | none=>False)→LeavesInM (wQ none) 0 P fn a'.tmps (zW7 V Z H w K KP) a'.defers .returning w':=by
    intro q
    split at q
    · rename_i rs hrs
      refine s'.marks (by simp) fun w2 s2 hx=>?_
      obtain ⟨v,hv,rv⟩:=zAb s2 hrs
      obtain ⟨r',Z2,H'',r2,m2,x2,hK⟩:=q Z' w2 v rv s2.mem
      exact ⟨v,hv,.inl ⟨v,r',Z2,H'',rfl,r2,m2,(hx (Nat.le_refl _) x').trans m.zlt x2,hK⟩⟩
    · exact q.elim
  cases e with
  | normal=>exact fin q
  | ret=>exact fin q
  | exit=>exact q.elim
  | goto=>exact q.elim
  | panic ch =>
    match ch,q with
    | [{ v,recovered:=false,goexit:=false }],q =>
      refine s'.marks (by simp) fun w2 s2 hx=>?_
      obtain ⟨Z2,H2,m2,x2,hK⟩:=q Z' w2 s2.mem
      exact .inr ⟨v,Z2,H2,rfl,m2,(hx (Nat.le_refl _) x').trans m.zlt x2,hK⟩
  | outgrown=>exact q.elim
theorem ACall.of {f:FuncId} {fn:Func} {c:Code} {args:List A} {K:A→Heap→Prop} (hf:P.funcs[f]?=some fn) (hb:fn.body=some c) (hn:args.length≤fn.ntmps)
    (h:AWp none P V fn.ntmps c (retQ P V fn K fun _ _=>False) (zBI args) H):ACall P V f args H K:=fun Z w cv hl hr m=>by
  refine (ACallP.of (KP:=fun _ _=>False) hf hb hn h Z w cv hl hr m).mono ?_
  rintro e w' (q | ⟨_,_,_,_,_,_,q⟩)
  · exact q
  · exact q.elim
end
end Go.Aug

/-
  The abstract layer, part P: regions that draw their order: one walk serves every order.
-/
namespace Go.Aug
inductive Plan where
  | done
  | fl (i:Nat) (rest:Plan)
  | eff (i:Nat) (chk:List Nat) (rest:Plan)
  | both (p q:Plan)
def zEb (P:Program) (o:Oper):Bool :=
  match o.op with
  | .move _ | .assign _ | .pick .. | .load .. | .fieldAddr .. | .field .. | .indexAddr .. | .index .. | .unOp .. | .extract .. | .nilCheck _=>true
  | .binOp _ t _ _ _=>!wH P t
  | .call c=>match c.callee with
    | .builtin .len=>true
    | _=>false
  | _=>false
def zEh (o:Oper):Bool :=
  match o.op with
  | .load .. | .indexAddr .. | .call _=>true
  | _=>false
def zDW (P:Program) (V:Env) (N:Nat) (ops:Array Oper) (F:Nat→A) (H:Heap):List Nat→Prop
  | []=>True
  | j::js=>(match ops[j]? with
    | some o=>match o.dst with
      | some d=>uY F N ops o (aop P V N o F H (fun y _=>y=F d) noP) (F d=.tup [])
      | none=>False
    | none=>False)∧zDW P V N ops F H js
def dops (P:Program) (V:Env) (N:Nat) (ops:Array Oper):Plan→(Nat→A)→Heap→((Nat→A)→Heap→Prop)→(Value→Heap→Prop)→Prop
  | .done,F,H,K,_=>K F H
  | .fl i rest,F,H,K,KP=>match ops[i]? with
    | some o=>uY F N ops o (aop P V N o F H (fun x H'=>dops P V N ops rest (putF F o.dst x) H' K KP) KP) (dops P V N ops rest (putF F o.dst (.tup [])) H K KP)
    | none=>False
  | .eff i chk rest,F,H,K,KP=>match ops[i]? with
    | some o=>uY F N ops o (aop P V N o F H (fun x H'=>zDW P V N ops (putF F o.dst x) H' chk∧dops P V N ops rest (putF F o.dst x) H' K KP) KP) (dops P V N ops rest (putF F o.dst (.tup [])) H K KP)
    | none=>False
  | .both p q,F,H,K,KP=>dops P V N ops p F H K KP∧dops P V N ops q F H K KP
section
variable {P:Program} {V:Env} {N:Nat} {F:Nat→A} {Z:Nat→Prop} {H:Heap} {a:Act} {w:World}
theorem zMV {F F':Nat→A} {x:Operand} (h:∀ t,x=.tmp t→F t=F' t):ev V N F x=ev V N F' x:=by
  cases x with
  | tmp t=>simp only [ev,h t rfl]
  | const v=>rfl
  | global g=>rfl
  | func f=>rfl
theorem zA3 {o:Oper} {F F':Nat→A} {K:A→Heap→Prop} {KP:Value→Heap→Prop} (h:∀ x ∈ o.op.operands,ev V N F x=ev V N F' x):aop P V N o F H K KP=aop P V N o F' H K KP:=by
  have hl:∀ (l:List Operand),(∀ x ∈ l,x ∈ o.op.operands)→l.map (ev V N F)=l.map (ev V N F'):=fun l hl=>List.map_congr_left fun x hx=>h x (hl x hx)
  have hp:∀ (l:List (Nat×Operand)),(∀ x ∈ l,x.2 ∈ o.op.operands)→(l.map fun p=>(p.1,ev V N F p.2))=l.map fun p=>(p.1,ev V N F' p.2):=fun l hl=>List.map_congr_left fun x hx=>by rw [h _ (hl x hx)]
  obtain ⟨dst,op,ty,pos,after,guard⟩:=o
  simp only at h hl hp
  unfold aop aopO
  simp only
  split
  · rw [h _ (by simp [Op.operands])]
  · rw [h _ (by simp [Op.operands])]
  · rw [h _ (by simp [Op.operands]),h _ (by simp [Op.operands]),h _ (by simp [Op.operands])]
  · rfl
  · rw [h _ (by simp [Op.operands])]
  · rw [hp _ (fun x hx=>by simp [Op.operands]; exact ⟨x.1,by simpa using hx⟩)]
  · rw [hp _ (fun x hx=>by simp [Op.operands]; exact ⟨x.1,by simpa using hx⟩)]
  · rw [h _ (by simp [Op.operands])]
  · rename_i t x y
    rw [h x (by simp [Op.operands]),h y (by simp [Op.operands])]
  · rw [h _ (by simp [Op.operands])]
  · rename_i op t x y u
    rw [h x (by simp [Op.operands]),h y (by simp [Op.operands])]
  · rw [h _ (by simp [Op.operands])]
  · rw [h _ (by simp [Op.operands])]
  · rename_i f first caps
    rw [hl _ (fun x hx=>by simp [Op.operands]; exact .inr (by simpa using hx))]
    split
    · rfl
    · rename_i x l hx
      rw [hl (x::l) (fun y hy=>by rw [←hx] at hy; simp [Op.operands]; exact .inl (by simpa using hy))]
  · rename_i t l c
    rw [h l (by simp [Op.operands]),h c (by simp [Op.operands])]
  · rename_i t x lo hi
    rw [h x (by simp [Op.operands])]
    have e1:lo.map (ev V N F)=lo.map (ev V N F'):=by cases lo with | none=>rfl | some y=>simp [h y (by simp [Op.operands])]
    have e2:hi.map (ev V N F)=hi.map (ev V N F'):=by cases hi with | none=>rfl | some y=>simp [h y (by simp [Op.operands])]
    rw [e1,e2]
  · rw [h _ (by simp [Op.operands])]
  · rw [h _ (by simp [Op.operands])]
  · rename_i t x i
    rw [h x (by simp [Op.operands]),h i (by simp [Op.operands])]
  · rename_i t x i
    rw [h x (by simp [Op.operands]),h i (by simp [Op.operands])]
  · rw [h _ (by simp [Op.operands])]
  · rename_i c
    have hc:∀ x ∈ c.operands,ev V N F x=ev V N F' x:=fun x hx=>h x (by simpa [Op.operands] using hx)
    have ha:∀ x ∈ c.args.toList,ev V N F x=ev V N F' x:=fun x hx=>hc x (by simp [Call.operands]; exact .inr (by simpa using hx))
    unfold yE
    split
    · split
      · rename_i hx _
        rw [ha _ (by simp [hx])]
      · rfl
    · split
      · rename_i x y _ _ hx _
        rw [ha x (by simp [hx]),ha y (by simp [hx])]
      · rfl
    · split
      · rename_i hx
        rw [ha _ (by simp [hx])]
      · rfl
    · split
      · rename_i x y _ _ hx _
        rw [ha x (by simp [hx]),ha y (by simp [hx])]
      · rfl
    · split
      · rename_i x y hx
        rw [ha x (by simp [hx]),ha y (by simp [hx])]
      · rfl
    · split
      · rename_i x y hx
        rw [ha x (by simp [hx]),ha y (by simp [hx])]
      · rfl
    · rename_i f hf
      have:c.args.toList.map (ev V N F)=c.args.toList.map (ev V N F'):=List.map_congr_left ha
      rw [hc f (by simp [Call.operands,hf]),this]
    · rfl
  · rfl
  · rename_i t x y ok
    rw [h x (by simp [Op.operands]),h y (by simp [Op.operands])]
  · rename_i t x y z
    rw [h x (by simp [Op.operands]),h y (by simp [Op.operands]),h z (by simp [Op.operands])]
  · rename_i t x
    rw [h x (by simp [Op.operands])]
  · rename_i x
    rw [h x (by simp [Op.operands])]
  · rfl
def Det (T:(A→Prop)→Prop):Prop:=∀ K,T K→∃ y,K y∧∀ K':A→Prop,K' y→T K'
theorem Det.one (y:A):Det fun K=>K y:=fun _ h=>⟨y,h,fun _ h=>h⟩
theorem Det.no:Det fun _=>False:=fun _ h=>h.elim
theorem Det.and {p:Prop} {T:(A→Prop)→Prop} (h:Det T):Det fun K=>p∧T K:=fun K hk=>let ⟨y,h1,h2⟩:=h K hk.2; ⟨y,h1,fun K' h'=>⟨hk.1,h2 K' h'⟩⟩
theorem Det.int {x:A} {T:Int→(A→Prop)→Prop} (h:∀ n,Det (T n)):Det fun K=>intA x fun n=>T n K:=by
  intro K hk
  unfold intA at hk
  split at hk
  · rename_i k n
    obtain ⟨y,h1,h2⟩:=h n K hk
    exact ⟨y,h1,fun K' h'=>by unfold intA; exact h2 K' h'⟩
  · exact hk.elim
theorem zKj {t:TypeId} {x:A}:Det fun K=>xT P t x H K:=by
  unfold xT
  split
  · split
    · exact .and (.one _)
    · split
      · exact .one _
      · exact .no
    · exact .no
  · split
    · exact .and (.one _)
    · split
      · exact .one _
      · exact .no
    · exact .no
  · split
    · split
      · exact .and (.and (.and (.one _)))
      · exact .no
    · split
      · refine .and (.and ?_)
        split
        · exact .one _
        · exact .no
      · exact .no
    · exact .no
  · exact .no
theorem zJp {s:TypeId} {x:A} {f:Nat}:Det fun K=>yV P s x f K:=by
  unfold yV
  split
  · split
    · exact .one _
    · exact .and (.one _)
    · exact .one _
    · exact .no
  · exact .no
theorem zGA {s:TypeId} {x:A} {f:Nat}:Det fun K=>zX P s x f K:=by
  unfold zX
  split
  · split
    · unfold zB3
      split
      · exact .and (.one _)
      · split
        · exact .one _
        · exact .no
      · exact .and (.one _)
      · split
        · exact .one _
        · exact .no
      · exact .no
    · exact .no
  · exact .no
theorem zDS {t:TypeId} {x i:A}:Det fun K=>zI P t x i H K:=by
  unfold zI
  split
  · split
    · refine .int fun n => .and ?_
      split
      · split
        · exact .and (.one _)
        · exact .no
      · split
        · exact .and (.and (.and (.one _)))
        · refine .and ?_
          split
          · exact .and (.one _)
          · exact .no
        · exact .no
      · exact .no
    · exact .no
  · exact .no
theorem zHF {t:TypeId} {x i:A}:Det fun K=>yG P t x i K:=by
  unfold yG
  split
  · refine .int fun n => .and ?_
    split
    · exact .one _
    · exact .no
  · exact .no
theorem zKl {t:TypeId} {x:A} {o:Nat}:Det fun K=>zB3 P t x o K:=by
  unfold zB3
  split
  · exact .and (.one _)
  · split
    · exact .one _
    · exact .no
  · exact .and (.one _)
  · split
    · exact .one _
    · exact .no
  · exact .no
theorem zE9 {t:TypeId} {x i:A}:Det fun K=>zL P t x i H K:=by
  unfold zL
  split
  · unfold zB2
    split
    · split
      · exact .int fun n=>.and (.and (.one _))
      · exact .no
    · exact .no
  · exact zDS
theorem zJr {t:TypeId} {x i:A}:Det fun K=>yW P t x i K:=by
  unfold yW
  split
  · exact zHF
  · unfold zDR
    split
    · split
      · exact .int fun n=>.and (.and zKl)
      · exact .no
    · exact .no
theorem zPy {op:UnOp} {x:A}:Det fun K=>aUn op x K:=by
  unfold aUn
  split <;> first | exact .one _ | exact .no
theorem zMC {x:A}:Det fun K=>aLen x H K:=by
  unfold aLen
  split
  · exact .one _
  · exact .one _
  · exact .one _
  · split
    · exact .and (.one _)
    · exact .and (.one _)
    · exact .no
  · split
    · exact .one _
    · exact .no
  · exact .no
def DetB (T:(Bool→Prop)→Prop):Prop:=∀ K,T K→∃ y,K y∧∀ K':Bool→Prop,K' y→T K'
theorem DetB.one (y:Bool):DetB fun K=>K y:=fun _ h=>⟨y,h,fun _ h=>h⟩
theorem DetB.no:DetB fun _=>False:=fun _ h=>h.elim
theorem DetB.and {p:Prop} {T:(Bool→Prop)→Prop} (h:DetB T):DetB fun K=>p∧T K:=fun K hk=>let ⟨y,h1,h2⟩:=h K hk.2; ⟨y,h1,fun K' h'=>⟨hk.1,h2 K' h'⟩⟩
theorem zKi {t:TypeId} {x y:A} (ht:wH P t=false):DetB fun K=>aEq P V t x y K:=by
  unfold aEq
  split <;> first
    | exact .no
    | exact .and (.one _)
    | exact .and (.and (.and (.one _)))
    | (rw [ht]; intro K h; cases h.1)
theorem zMv {op:BinOp} {t:TypeId} {lit:Bool} {x y:A} (ht:wH P t=false):Det fun K=>aBin P V op t lit x y K:=by
  unfold aBin
  split
  · split
    · unfold zES; exact .and (.one _)
    · unfold zES; exact .and (.one _)
    · refine .and ?_
      unfold zCe
      split <;> first | exact .one _ | exact .and (.one _) | exact .no
  · unfold zOJ
    split <;> first | exact .one _ | exact .and (.one _) | exact .no
  · split
    · refine .and (.and ?_)
      split <;> first | exact .one _ | exact .no
    · exact .no
  · refine .and ?_
    split
    · intro K h
      obtain ⟨b,h1,h2⟩:=zKi ht _ h
      exact ⟨_,h1,fun K' hk=>h2 _ hk⟩
    · intro K h
      obtain ⟨b,h1,h2⟩:=zKi ht _ h
      exact ⟨_,h1,fun K' hk=>h2 _ hk⟩
    · exact .no
theorem zGM {o:Oper} {K:A→Heap→Prop} {KP:Value→Heap→Prop} (hf:zEb P o=true) (h:aop P V N o F H K KP):∃ x,K x H∧∀ (K':A→Heap→Prop) (KP':Value→Heap→Prop),K' x H→aop P V N o F H K' KP':=by
  have via:∀ {T:(A→Prop)→Prop},Det T→T (fun y=>K y H)→∃ x,K x H∧∀ (K':A→Heap→Prop) (_:Value→Heap→Prop),K' x H→T fun y=>K' y H:=fun hd ht =>
    let ⟨y,h1,h2⟩:=hd _ ht
    ⟨y,h1,fun K' _ hk=>h2 _ hk⟩
  obtain ⟨dst,op,ty,pos,after,guard⟩:=o
  cases op <;> simp only [zEb,Bool.false_eq_true] at hf <;> simp only [aop,aopO] at h ⊢
  · exact ⟨_,h,fun _ _ h=>h⟩
  · exact ⟨_,h,fun _ _ h=>h⟩
  · split at h
    · rename_i t ht
      split at h
      · rename_i e; exact ⟨_,h,fun _ _ h=>by rw [if_pos e]; exact h⟩
      · rename_i e; exact ⟨_,h,fun _ _ h=>by rw [if_neg e]; exact h⟩
    · exact h.elim
  · exact via zKj h
  · split at h <;> first | exact ⟨_,h,fun _ _ h=>h⟩ | exact h.elim
  · exact via (zMv (by simpa using hf)) h
  · exact via zPy h
  · exact via zJp h
  · exact via zGA h
  · exact via zE9 h
  · exact via zJr h
  · split at h
    · split at h
      · exact ⟨_,h,fun _ _ h=>h⟩
      · exact h.elim
    · exact h.elim
  · rename_i c
    unfold yE at h ⊢
    split at hf
    · rename_i hc
      simp only [hc] at h ⊢
      split at h
      · obtain ⟨hl, h⟩ := h
        obtain ⟨x,h1,h2⟩:=via zMC h
        exact ⟨x,h1,fun K' KP' hk=>⟨hl,h2 K' KP' hk⟩⟩
      · exact h.elim
    · cases hf
end
end Go.Aug

/-
  The abstract layer, part Q: a region that draws its order comes to what its plan says.
-/
namespace Go.Aug
def zAj (ops:Array Oper) (i:Nat):List Nat :=
  match ops[i]? with
  | some o=>(o.after.toList.filter (Region.binds .any)).map (·.on)
  | none=>[]
def ancs (ops:Array Oper):Nat→List Nat
  | 0=>[]
  | n+1=>let acc:=ancs ops n; acc++[(zAj ops n).foldl (fun m p=>(m ||| (1 <<< p)) ||| acc.getD p 0) 0]
def zD1 (ops:Array Oper) (n i j:Nat):Bool:=((ancs ops n).getD i 0).testBit j
def zFl (P:Program) (ops:Array Oper) (i:Nat):Bool :=
  match ops[i]? with
  | some o=>zEb P o && match o.dst with
    | some d=>!(o.looksAt ops).contains d && (List.range ops.size).all fun k=>k == i || match ops[k]? with
      | some p=>(!(p.looksAt ops).contains d || zD1 ops ops.size k i) && p.dst != some d
      | none=>true
    | none=>false
  | none=>false
def zAI (ops:Array Oper) (EL:List Nat) (k:Nat):Bool:=!EL.contains k && (zAj ops k).all EL.contains
def Plan.heads:Plan→Option (List Nat)
  | .done=>none
  | .fl _ _=>none
  | .eff i _ _=>some [i]
  | .both p q=>match p.heads,q.heads with
    | some a,some b=>some (a++b)
    | _,_=>none
def cov (ops:Array Oper) (EL:List Nat) (p:Plan):Bool :=
  match p.heads with
  | none=>true
  | some hs=>(List.range ops.size).all fun k=>!zAI ops EL k || hs.contains k
def zPE (P:Program) (ops:Array Oper) (EL:List Nat) (i:Nat) (chk:List Nat):Bool :=
  EL.all fun j=>zD1 ops ops.size i j || !zFl P ops j || match ops[j]?,ops[i]? with
    | some oj,some oi=>(!zEh oj || chk.contains j) && match oi.dst with
      | some d=>!(oj.looksAt ops).contains d
      | none=>true
    | _,_=>false
def jO (P:Program) (ops:Array Oper):List Nat→Plan→Bool
  | EL,.done=>(List.range ops.size).all EL.contains
  | EL,.fl i rest=>decide (i < ops.size) && zAI ops EL i && zFl P ops i && cov ops (i::EL) rest && jO P ops (i::EL) rest
  | EL,.eff i chk rest=>decide (i < ops.size) && zAI ops EL i && zPE P ops EL i chk && cov ops (i::EL) rest && jO P ops (i::EL) rest
  | EL,.both p q=>p.heads.isSome && q.heads.isSome && jO P ops EL p && jO P ops EL q
section
variable {P:Program} {V:Env} {N:Nat} {ds:Df} {ops:Array Oper}
theorem qW {F:Nat→A} {o:Oper} {yes no:Prop} (h:uY F N ops o yes no):(yes∧∀ y n:Prop,y→uY F N ops o y n)∨(no∧∀ y n:Prop,n→uY F N ops o y n):=by
  unfold uY at h ⊢
  split at h
  · exact .inl ⟨h,fun _ _ h=>h⟩
  · split at h
    · split at h
      · split at h
        · rename_i hd
          simp only [hd,if_true]
          split at h
          · split at h
            · rename_i e; exact .inl ⟨h,fun _ _ h=>by rw [if_pos e]; exact h⟩
            · rename_i e; exact .inr ⟨h,fun _ _ h=>by rw [if_neg e]; exact h⟩
          · exact .inr ⟨h,fun _ _ h=>h⟩
          · exact h.elim
        · exact h.elim
      · exact h.elim
    · exact h.elim
theorem kE {F F':Nat→A} {o:Oper} {yes no:Prop} (h:∀ t ∈ o.looksAt ops,F t=F' t):uY F N ops o yes no=uY F' N ops o yes no:=by
  unfold uY
  split
  · rfl
  · rename_i j want hg
    split
    · rename_i p hp
      split
      · rename_i d hd
        have:F d=F' d:=h d (by simp [Oper.looksAt,hg,hp,hd])
        rw [this]
      · rfl
    · rfl
theorem zCc {F F':Nat→A} {o:Oper} (h:∀ t ∈ o.looksAt ops,F t=F' t):∀ x ∈ o.op.operands,ev V N F x=ev V N F' x:=by
  intro x hx
  refine zMV ?_
  rintro t rfl
  refine h t ?_
  simp only [Oper.looksAt,List.mem_append,List.mem_filterMap]
  exact .inl ⟨.tmp t,by simpa using hx,rfl⟩
def Stab (P:Program) (V:Env) (N:Nat) (ops:Array Oper) (F:Nat→A) (H:Heap) (j:Nat):Prop :=
  ∀ o d,ops[j]?=some o→o.dst=some d→uY F N ops o (∀ (K':A→Heap→Prop) (KP':Value→Heap→Prop),K' (F d) H→aop P V N o F H K' KP') (F d=.tup [])
def Ord (ops:Array Oper):List Nat→Prop
  | []=>True
  | i::EL=>(∀ p ∈ zAj ops i,p ∈ EL)∧i ∉ EL∧Ord ops EL
structure Inv (P:Program) (V:Env) (N:Nat) (ds:Df) (ops:Array Oper) (L:Array Bool) (EL:List Nat) (F:Nat→A) (H:Heap) (Z:Nat→Prop) (a:Act) (w:World):Prop where
  size:L.size=ops.size
  lsub:∀ i,L.getD i false=true→i ∈ EL
  esub:∀ i ∈ EL,i < ops.size
  closed:∀ i,L.getD i false=true→∀ p ∈ zAj ops i,L.getD p false=true
  ord:Ord ops EL
  pend:∀ i ∈ EL,L.getD i false=false→zFl P ops i=true∧Stab P V N ops F H i
  st:∃ F',St V N ds Z F' H a w∧∀ d,(∀ j ∈ EL,L.getD j false=false→∀ o,ops[j]?=some o→o.dst≠some d)→F' d=F d
theorem kG {L:Array Bool} (hs:L.size=ops.size) {j:Nat}:j ∈ Region.ready .any ops L↔j < ops.size∧L.getD j false=false∧∀ p ∈ zAj ops j,L.getD p false=true:=by
  rw [mem_ready]
  constructor
  · rintro ⟨h0, o, ho, hall⟩
    have hj:j < ops.size:=(Array.getElem?_eq_some_iff.1 ho).1
    refine ⟨hj, ?_, ?_⟩
    · simp only [Array.getD_eq_getD_getElem?] at h0 ⊢
      rw [Array.getElem?_eq_getElem (by omega)] at h0 ⊢
      exact h0
    · intro p hp
      simp only [zAj,ho,List.mem_map,List.mem_filter] at hp
      obtain ⟨e,⟨he,hb⟩,rfl⟩:=hp
      exact hall e (by simpa using he) hb
  · rintro ⟨hj, h0, hall⟩
    refine ⟨?_,ops[j],Array.getElem?_eq_getElem hj, ?_⟩
    · simp only [Array.getD_eq_getD_getElem?] at h0 ⊢
      rw [Array.getElem?_eq_getElem (by omega)] at h0 ⊢
      exact h0
    · intro e he hb
      refine hall e.on ?_
      simp only [zAj,Array.getElem?_eq_getElem hj,List.mem_map,List.mem_filter]
      exact ⟨e,⟨by simpa using he,hb⟩,rfl⟩
theorem zDX (ops:Array Oper):∀ n,(ancs ops n).length=n
  | 0=>rfl
  | n+1=>by simp [ancs,zDX ops n]
theorem zGN {acc:List Nat} {S:Nat→Prop} (hacc:∀ p j,(acc.getD p 0).testBit j=true→S p→S j):∀ (l:List Nat) (m j:Nat),(l.foldl (fun m p=>(m ||| (1 <<< p)) ||| acc.getD p 0) m).testBit j=true →
    (∀ p ∈ l,S p)→m.testBit j=true∨S j
  | [],m,j,h,_=>.inl h
  | p::l,m,j,h,hp=>by
    rcases zGN hacc l _ j h (fun q hq=>hp q (.tail _ hq)) with h1 | h1
    · simp only [Nat.testBit_or, Bool.or_eq_true] at h1
      rcases h1 with (h1 | h1) | h1
      · exact .inl h1
      · right
        have:p=j:=by
          simp only [Nat.testBit_shiftLeft,Bool.and_eq_true,decide_eq_true_eq] at h1
          have h2:=h1.2
          have:j - p=0:=by
            rcases Nat.eq_zero_or_pos (j - p) with h0 | h0
            · exact h0
            · rw [Nat.testBit_one_eq_true_iff_self_eq_zero] at h2; exact h2
          omega
        rw [←this]; exact hp p (.head _)
      · exact .inr (hacc p j h1 (hp p (.head _)))
    · exact .inr h1
theorem zIw {ops:Array Oper} {S:Nat→Prop} (hc:∀ i,S i→∀ p ∈ zAj ops i,S p):∀ (n i j:Nat),((ancs ops n).getD i 0).testBit j=true→(∀ p ∈ zAj ops i,S p)→S j
  | 0,i,j,h,_=>by simp [ancs] at h
  | n+1,i,j,h,hp=>by
    simp only [ancs] at h
    have ih:=zIw hc n
    have hl:=zDX ops n
    rw [List.getD_eq_getElem?_getD] at h
    by_cases e:i < n
    · rw [List.getElem?_append_left (by omega), ← List.getD_eq_getElem?_getD] at h
      exact ih i j h hp
    · rw [List.getElem?_append_right (by omega), hl] at h
      by_cases e2:i=n
      · subst e2
        rw [Nat.sub_self] at h
        simp only [List.getElem?_cons_zero,Option.getD_some] at h
        rcases zGN (S:=S) (fun p j hb hS=>ih p j hb (hc p hS)) _ _ j h hp with h1 | h1
        · simp at h1
        · exact h1
      · rw [List.getElem?_eq_none (by simp; omega)] at h
        simp at h
theorem zCG {S:Nat→Prop} (hc:∀ i,S i→∀ p ∈ zAj ops i,S p) (n i j:Nat) (h:zD1 ops n i j=true) (hp:∀ p ∈ zAj ops i,S p):S j:=zIw hc n i j h hp
theorem Ord.closed:∀ {EL:List Nat},Ord ops EL→∀ i ∈ EL,∀ p ∈ zAj ops i,p ∈ EL
  | i::EL,h,k,hk,p,hp=>by
    rcases List.mem_cons.1 hk with rfl | hk
    · exact .tail _ (h.1 p hp)
    · exact .tail _ (h.2.2.closed k hk p hp)
theorem zAC {i:Nat} (h:zFl P ops i=true):∃ o d,ops[i]?=some o∧zEb P o=true∧o.dst=some d∧d ∉ o.looksAt ops ∧
    ∀ k p,ops[k]?=some p→k≠i→(d ∈ p.looksAt ops→zD1 ops ops.size k i=true)∧p.dst≠some d:=by
  unfold zFl at h
  split at h
  · rename_i o ho
    simp only [Bool.and_eq_true] at h
    obtain ⟨hf,h⟩:=h
    split at h
    · rename_i d hd
      simp only [Bool.and_eq_true,Bool.not_eq_true',List.all_eq_true,List.mem_range,Bool.or_eq_true,beq_iff_eq] at h
      obtain ⟨h1,h2⟩:=h
      refine ⟨o,d,ho,hf,hd,by simpa using h1, ?_⟩
      intro k p hk hne
      have hlt:k < ops.size:=(Array.getElem?_eq_some_iff.1 hk).1
      have:=(h2 k hlt).resolve_left hne
      rw [hk] at this
      simp only [Bool.and_eq_true,Bool.or_eq_true,Bool.not_eq_true',bne_iff_ne] at this
      exact ⟨fun hm=>this.1.resolve_left (by simpa using hm),this.2⟩
    · cases h
  · cases h
theorem Inv.next {L:Array Bool} (hs:L.size=ops.size):∀ {EL:List Nat},Ord ops EL→(∀ i ∈ EL,i < ops.size)→(∃ i ∈ EL,L.getD i false=false)→∃ j ∈ EL,j ∈ Region.ready .any ops L
  | [],_,_,⟨i,hi,_⟩=>by simp at hi
  | i::EL,ho,hl,⟨k,hk,hu⟩=>by
    by_cases h:∃ i ∈ EL,L.getD i false=false
    · obtain ⟨j, hj, hr⟩ := Inv.next hs ho.2.2 (fun i hi => hl i (.tail _ hi)) h
      exact ⟨j,.tail _ hj,hr⟩
    · have hall : ∀ x ∈ EL, L.getD x false = true := fun x hx => by
        cases e:L.getD x false with
        | true=>rfl
        | false=>exact absurd ⟨x,hx,e⟩ h
      have:k=i:=by
        rcases List.mem_cons.1 hk with e | hk
        · exact e
        · rw [hall k hk] at hu; cases hu
      subst this
      exact ⟨k,.head _,(kG hs).2 ⟨hl k (.head _),hu,fun p hp=>hall p (ho.1 p hp)⟩⟩
def remN (ops:Array Oper) (L:Array Bool):Nat:=(List.range ops.size).countP fun i=>!L.getD i false
theorem zGH {p q:Nat→Bool}:∀ (l:List Nat) (i:Nat),i ∈ l→p i=true→q i=false→(∀ x,q x=true→p x=true)→l.countP q < l.countP p
  | x::l,i,hi,hp,hq,hle=>by
    simp only [List.countP_cons]
    rcases List.mem_cons.1 hi with rfl | hi
    · have := List.countP_mono_left (l := l) (fun y _ => hle y)
      simp [hp,hq]; omega
    · have := zGH l i hi hp hq hle
      have hx:(if q x=true then 1 else 0)≤(if p x=true then 1 else 0):=by
        by_cases e:q x=true
        · simp [e,hle x e]
        · simp [e]
      omega
theorem zDy {L:Array Bool} {i k:Nat} (hi:i < L.size):(L.setIfInBounds i true).getD k false=if k=i then true else L.getD k false:=by
  simp only [Array.getD_eq_getD_getElem?,Array.getElem?_setIfInBounds]
  by_cases e:k=i
  · subst e; simp [hi]
  · simp [e,Ne.symm e]
theorem zI5 {L:Array Bool} {i:Nat} (hs:L.size=ops.size) (hi:i < ops.size) (hu:L.getD i false=false):remN ops (L.setIfInBounds i true) < remN ops L:=by
  refine zGH _ i (List.mem_range.2 hi) (by simpa using hu) (by simp [zDy (show i < L.size by omega)]) ?_
  intro x hx
  rw [zDy (by omega)] at hx
  by_cases e:x=i
  · simp [e] at hx
  · simpa [e] using hx
theorem zHe {L:Array Bool} (h:remN ops L=0):∀ i,i < ops.size→L.getD i false=true:=by
  intro i hi
  have:=List.countP_eq_zero.1 h i (List.mem_range.2 hi)
  simpa using this
theorem zLT {ro:Option Nat} {KP:Value→Heap→Prop} {Q:Exit→Act→World→Prop} {i:Nat} {o:Oper} {F:Nat→A} {H:Heap} {Z:Nat→Prop} {a:Act} {w:World} {K1:A→Heap→Prop} {no:Prop} {next:Act→World→Prop} (hi:ops[i]?=some o)
    (s:St V N ds Z F H a w) (h:uY F N ops o (aop P V N o F H K1 KP) no)
    (h1:∀ x v Z' H' w',RepA V w' Z' v x→Mem V Z' H' w'→Ext Z H w Z' H' w'→K1 x H'→next (a.put o.dst v) w') (h2:no→next (a.put o.dst undef) w)
    (hp:∀ v Z' H' w',Mem V Z' H' w'→Ext Z H w Z' H' w'→KP v H'→Q (.panic [{ v,recovered:=false }]) a w'):wpOpIn (wQ ro) 0 P ops Q i next a w:=by
  unfold wpOpIn
  simp only [hi]
  rcases zC8 s h with ⟨hw,h⟩ | ⟨hw,h⟩
  · rw [if_pos hw]
    exact zDY s h h1 hp
  · rw [if_neg (by simp [hw])]
    exact ⟨fun _ _=>trivial,h2 h⟩
theorem Inv.agree {L:Array Bool} {EL:List Nat} {F:Nat→A} {H:Heap} {Z:Nat→Prop} {a:Act} {w:World} (v:Inv P V N ds ops L EL F H Z a w) {i:Nat} {o:Oper} (hi:ops[i]?=some o)
    (hp:∀ p ∈ zAj ops i,L.getD p false=true) {F':Nat→A} (hF:∀ d,(∀ j ∈ EL,L.getD j false=false→∀ o,ops[j]?=some o→o.dst≠some d)→F' d=F d):∀ t ∈ o.looksAt ops,F' t=F t:=by
  intro t ht
  refine hF t ?_
  intro j hj hu oj hoj hd
  obtain ⟨hc,_⟩:=v.pend j hj hu
  obtain ⟨o',d,ho',_,hd',hself,hcl⟩:=zAC hc
  rw [hoj] at ho'; cases ho'
  rw [hd] at hd'; cases hd'
  by_cases e:i=j
  · subst e
    rw [hi] at hoj; cases hoj
    exact hself ht
  · have := zCG (S := fun k => L.getD k false = true) v.closed _ i j ((hcl i o hi e).1 ht) hp
    rw [this] at hu; cases hu
theorem Inv.step_pend {ro:Option Nat} {Q:Exit→Act→World→Prop} {L:Array Bool} {EL:List Nat} {F:Nat→A} {H:Heap} {Z:Nat→Prop} {a:Act} {w:World} (v:Inv P V N ds ops L EL F H Z a w) {i:Nat} (hiE:i ∈ EL)
    (hr:i ∈ Region.ready .any ops L) {next:Act→World→Prop}
    (hn:∀ Z' a' w',Inv P V N ds ops (L.setIfInBounds i true) EL F H Z' a' w'→Ext Z H w Z' H w'→next a' w'):wpOpIn (wQ ro) 0 P ops Q i next a w:=by
  obtain ⟨hlt,hu,hp⟩:=(kG v.size).1 hr
  obtain ⟨hc,hst⟩:=v.pend i hiE hu
  obtain ⟨o,d,hio,hf,hd,hself,hcl⟩:=zAC hc
  obtain ⟨F',s,hF⟩:=v.st
  have hag:=v.agree hio hp hF
  have hst:=hst o d hio hd
  have hset:∀ k,(L.setIfInBounds i true).getD k false=if k=i then true else L.getD k false:=fun k=>zDy (by rw [v.size]; exact hlt)
  have fin:∀ (x:A) (u:Value) Z' w',RepA V w' Z' u x→Mem V Z' H w'→Ext Z H w Z' H w'→x=F d→next (a.put o.dst u) w':=by
    rintro x u Z' w' rx m' x' rfl
    refine hn Z' _ w' ⟨by simp [v.size], ?_,v.esub, ?_,v.ord, ?_,putF F' o.dst (F d),s.put (s.mem.keeps x') m' rx, ?_⟩ x'
    · intro k hk
      rw [hset] at hk
      by_cases e:k=i
      · rw [e]; exact hiE
      · rw [if_neg e] at hk; exact v.lsub k hk
    · intro k hk p hpk
      rw [hset] at hk ⊢
      by_cases e:k=i
      · subst e
        split
        · rfl
        · exact hp p hpk
      · rw [if_neg e] at hk
        split
        · rfl
        · exact v.closed k hk p hpk
    · intro k hk hku
      rw [hset] at hku
      by_cases e:k=i
      · simp [e] at hku
      · rw [if_neg e] at hku; exact v.pend k hk hku
    · intro d' hd'
      rw [hd]
      simp only [putF,updF]
      by_cases e:d'=d
      · rw [if_pos e,e]
      · rw [if_neg e]
        refine hF d' ?_
        intro j hj hju oj hoj hdj
        by_cases ej:j=i
        · subst ej; rw [hio] at hoj; cases hoj; rw [hd] at hdj; cases hdj; exact e rfl
        · exact hd' j hj (by rw [hset,if_neg ej]; exact hju) oj hoj hdj
  have hg:uY F' N ops o (aop P V N o F' H (fun y H'=>y=F d∧H'=H) noP) (F d=.tup []):=by
    rw [kE hag]
    rcases qW hst with ⟨h1,h2⟩ | ⟨h1,h2⟩
    · refine h2 _ _ ?_
      rw [zA3 (zCc hag)]
      exact h1 _ _ ⟨rfl,rfl⟩
    · exact h2 _ _ h1
  refine zLT hio s hg ?_ ?_ (fun _ _ _ _ _ _ h=>h.elim)
  · rintro x u Z' H' w' rx m' x' ⟨e, rfl⟩
    exact fin x u Z' w' rx m' x' e
  · intro e
    exact fin (.tup []) undef Z w zGd s.mem (.refl ..) e.symm
end
end Go.Aug

/-
  The abstract layer, part R: a region that draws its order comes to what its plan says, ended.
-/
namespace Go.Aug
section
variable {P:Program} {V:Env} {N:Nat} {ds:Df} {ops:Array Oper}
theorem Inv.float {L:Array Bool} {EL:List Nat} {F:Nat→A} {H:Heap} {Z:Nat→Prop} {a:Act} {w:World} (v:Inv P V N ds ops L EL F H Z a w) {i:Nat} {o:Oper} {d:Tmp} (hio:ops[i]?=some o) (hd:o.dst=some d)
    (hr:zAI ops EL i=true) (hc:zFl P ops i=true) {x:A} (hst:uY F N ops o (∀ (K':A→Heap→Prop) (KP':Value→Heap→Prop),K' x H→aop P V N o F H K' KP') (x=.tup [])) :
    Inv P V N ds ops L (i::EL) (putF F o.dst x) H Z a w:=by
  obtain ⟨o',d',ho',hf,hd',hself,hcl⟩:=zAC hc
  rw [hio] at ho'; cases ho'
  rw [hd] at hd'; cases hd'
  simp only [zAI,Bool.and_eq_true,Bool.not_eq_true',List.all_eq_true] at hr
  have hnE:i ∉ EL:=by simpa using hr.1
  have hpE:∀ p ∈ zAj ops i,p ∈ EL:=fun p hp=>by simpa using hr.2 p hp
  have hne:∀ t,t≠d→putF F o.dst x t=F t:=fun t ht=>by simp [hd,putF,updF,ht]
  have hlt:i < ops.size:=(Array.getElem?_eq_some_iff.1 hio).1
  have hnL:L.getD i false=false:=by
    cases e:L.getD i false with
    | false=>rfl
    | true=>exact absurd (v.lsub i e) hnE
  refine ⟨v.size,fun k hk=>.tail _ (v.lsub k hk), ?_,v.closed,⟨hpE,hnE,v.ord⟩, ?_, ?_⟩
  · intro k hk
    rcases List.mem_cons.1 hk with rfl | hk
    · exact hlt
    · exact v.esub k hk
  · intro k hk hu
    rcases List.mem_cons.1 hk with rfl | hk
    · refine ⟨hc, ?_⟩
      intro o2 d2 ho2 hd2
      rw [hio] at ho2; cases ho2
      rw [hd] at hd2; cases hd2
      have hag:∀ t ∈ o.looksAt ops,putF F o.dst x t=F t:=fun t ht=>hne t (fun e=>hself (e ▸ ht))
      have hx:putF F o.dst x d=x:=by simp [hd,putF,updF]
      rw [kE hag]
      rcases qW hst with ⟨h1,h2⟩ | ⟨h1,h2⟩
      · refine h2 _ _ fun K' KP' hk => ?_
        rw [hx] at hk
        rw [zA3 (zCc hag)]
        exact h1 K' KP' hk
      · exact h2 _ _ (by rw [hx]; exact h1)
    · obtain ⟨hck, hsk⟩ := v.pend k hk hu
      refine ⟨hck, ?_⟩
      intro ok dk hok hdk
      have hki:k≠i:=fun e=>hnE (e ▸ hk)
      obtain ⟨hrd,hwd⟩:=hcl k ok hok hki
      have hdne:dk≠d:=fun e=>hwd (e ▸ hdk)
      have hag:∀ t ∈ ok.looksAt ops,putF F o.dst x t=F t:=by
        intro t ht
        refine hne t ?_
        rintro rfl
        exact hnE (zCG (S:=(· ∈ EL)) v.ord.closed _ k i (hrd ht) (v.ord.closed k hk))
      have:=hsk ok dk hok hdk
      rw [kE hag,hne dk hdne]
      rcases qW this with ⟨h1,h2⟩ | ⟨h1,h2⟩
      · refine h2 _ _ fun K' KP' hk => ?_
        rw [zA3 (zCc hag)]
        exact h1 K' KP' hk
      · exact h2 _ _ h1
  · obtain ⟨F', s, hF⟩ := v.st
    refine ⟨F',s, ?_⟩
    intro t ht
    have htd:t≠d:=by
      rintro rfl
      exact ht i (.head _) hnL o hio hd
    rw [hne t htd]
    exact hF t fun j hj hu=>ht j (.tail _ hj) hu
theorem Inv.step_eff {ro:Option Nat} {KP:Value→Heap→Prop} {Q:Exit→Act→World→Prop} {L:Array Bool} {EL:List Nat} {F:Nat→A} {H:Heap} {Z:Nat→Prop} {a:Act} {w:World} (v:Inv P V N ds ops L EL F H Z a w) {i:Nat} {o:Oper} (hio:ops[i]?=some o)
    (hr:i ∈ Region.ready .any ops L) (hrE:zAI ops EL i=true) {chk:List Nat} (hchk:zPE P ops EL i chk=true) {G:(Nat→A)→Heap→Prop} {no:Prop}
    (h:uY F N ops o (aop P V N o F H (fun x H'=>zDW P V N ops (putF F o.dst x) H' chk∧G (putF F o.dst x) H') KP) no) (hno:no→G (putF F o.dst (.tup [])) H) {next:Act→World→Prop}
    (hn:∀ F2 Z' H' a' w',Inv P V N ds ops (L.setIfInBounds i true) (i::EL) F2 H' Z' a' w'→Ext Z H w Z' H' w'→G F2 H'→next a' w')
    (hpan:∀ v F2 Z' H' w',St V N ds Z' F2 H' a w'→Ext Z H w Z' H' w'→KP v H'→Q (.panic [{ v,recovered:=false }]) a w'):wpOpIn (wQ ro) 0 P ops Q i next a w:=by
  obtain ⟨hlt,hu,hp⟩:=(kG v.size).1 hr
  obtain ⟨F',s,hF⟩:=v.st
  have hag:=v.agree hio hp hF
  simp only [zAI,Bool.and_eq_true,Bool.not_eq_true',List.all_eq_true] at hrE
  have hnE:i ∉ EL:=by simpa using hrE.1
  have hpE:∀ p ∈ zAj ops i,p ∈ EL:=fun p hp=>by simpa using hrE.2 p hp
  have hset:∀ k,(L.setIfInBounds i true).getD k false=if k=i then true else L.getD k false:=fun k=>zDy (by rw [v.size]; exact hlt)
  -- what waits is told still
  have keepSt:∀ (x:A) (H':Heap),(H'=H∨zDW P V N ops (putF F o.dst x) H' chk)→∀ k ∈ EL,L.getD k false=false→Stab P V N ops (putF F o.dst x) H' k:=by
    intro x H' hH k hk hku ok dk hok hdk
    obtain ⟨hck,hsk⟩:=v.pend k hk hku
    obtain ⟨o',d',ho',hf,hd',hself,hcl⟩:=zAC hck
    rw [hok] at ho'; cases ho'
    rw [hdk] at hd'; cases hd'
    have hki:i≠k:=fun e=>hnE (e ▸ hk)
    have hbef:zD1 ops ops.size i k=false:=by
      cases e:zD1 ops ops.size i k with
      | false=>rfl
      | true=>rw [zCG (S:=fun k=>L.getD k false=true) v.closed _ i k e hp] at hku; cases hku
    have hch:=List.all_eq_true.1 hchk k hk
    rw [hbef,hck,hok,hio] at hch
    simp only [Bool.false_or,Bool.not_true,Bool.and_eq_true] at hch
    obtain ⟨hch1,hch2⟩:=hch
    have hdst:∀ d,o.dst=some d→d≠dk∧d ∉ ok.looksAt ops:=by
      intro d hd
      refine ⟨fun e=>(hcl i o hio hki).2 (by rw [hd,e]), ?_⟩
      rw [hd] at hch2
      simpa using hch2
    have hag2:∀ t ∈ ok.looksAt ops,putF F o.dst x t=F t:=by
      intro t ht
      cases hd:o.dst with
      | none=>rfl
      | some d=>simp only [putF,updF]; rw [if_neg (fun (e:t=d)=>(hdst d hd).2 (e ▸ ht))]
    have hdk2:putF F o.dst x dk=F dk:=by
      cases hd:o.dst with
      | none=>rfl
      | some d=>simp only [putF,updF]; rw [if_neg (fun (e:dk=d)=>(hdst d hd).1 e.symm)]
    have hs:=hsk ok dk hok hdk
    by_cases hl:zEh ok=true∧H'≠H
    · -- looks into memory: asked again
      have hmem:k ∈ chk:=by
        have:=hch1
        rw [hl.1] at this
        simpa using this
      have hag3:=hH.resolve_left hl.2
      have:∀ (l:List Nat),k ∈ l→zDW P V N ops (putF F o.dst x) H' l→uY (putF F o.dst x) N ops ok (aop P V N ok (putF F o.dst x) H' (fun y _=>y=putF F o.dst x dk) noP) (putF F o.dst x dk=.tup []):=by
        intro l
        induction l with
        | nil=>intro h; simp at h
        | cons j js ih =>
          intro hm ha
          simp only [zDW] at ha
          rcases List.mem_cons.1 hm with rfl | hm
          · have := ha.1
            rw [hok] at this
            simp only [hdk] at this
            exact this
          · exact ih hm ha.2
      rcases qW (this chk hmem hag3) with ⟨h1,h2⟩ | ⟨h1,h2⟩
      · refine h2 _ _ fun K' KP' hk => ?_
        obtain ⟨y,rfl,hy⟩:=zGM hf h1
        exact hy K' KP' hk
      · exact h2 _ _ h1
    · rw [kE hag2, hdk2]
      rcases qW hs with ⟨h1,h2⟩ | ⟨h1,h2⟩
      · refine h2 _ _ fun K' KP' hk => ?_
        rw [zA3 (zCc hag2)]
        by_cases e:H'=H
        · subst e; exact h1 K' KP' hk
        · have hli : zEh ok = false := by
            cases e2:zEh ok with
            | false=>rfl
            | true=>exact absurd ⟨e2,e⟩ hl
          have:=h1 (fun y _=>K' y H') KP' hk
          -- it doesn't look into memory
          obtain ⟨dst,op,ty,pos,after,guard⟩:=ok
          cases op <;> simp only [zEb,Bool.false_eq_true] at hf <;> simp only [zEh,Bool.true_eq_false] at hli <;> simp only [aop,aopO] at this ⊢ <;> exact this
      · exact h2 _ _ h1
  have fin:∀ (x:A) (u:Value) Z' H' w',RepA V w' Z' u x→Mem V Z' H' w'→Ext Z H w Z' H' w'→(H'=H∨zDW P V N ops (putF F o.dst x) H' chk)→G (putF F o.dst x) H'→next (a.put o.dst u) w':=by
    intro x u Z' H' w' rx m' x' hH hG
    refine hn (putF F o.dst x) Z' H' _ w' ⟨by simp [v.size], ?_, ?_, ?_,⟨hpE,hnE,v.ord⟩, ?_,putF F' o.dst x,s.put (s.mem.keeps x') m' rx, ?_⟩ x' hG
    · intro k hk
      rw [hset] at hk
      by_cases e:k=i
      · rw [e]; exact .head _
      · rw [if_neg e] at hk; exact .tail _ (v.lsub k hk)
    · intro k hk
      rcases List.mem_cons.1 hk with rfl | hk
      · exact hlt
      · exact v.esub k hk
    · intro k hk p hpk
      rw [hset] at hk ⊢
      by_cases e:k=i
      · subst e
        split
        · rfl
        · exact hp p hpk
      · rw [if_neg e] at hk
        split
        · rfl
        · exact v.closed k hk p hpk
    · intro k hk hku
      rw [hset] at hku
      by_cases e:k=i
      · simp [e] at hku
      · rw [if_neg e] at hku
        have hkE:k ∈ EL:=(List.mem_cons.1 hk).resolve_left e
        exact ⟨(v.pend k hkE hku).1,keepSt x H' hH k hkE hku⟩
    · intro t ht
      cases hd:o.dst with
      | none =>
        refine hF t ?_
        intro j hj hju
        exact ht j (.tail _ hj) (by rw [hset,if_neg (fun (e:j=i)=>hnE (e ▸ hj))]; exact hju)
      | some d =>
        simp only [putF,updF]
        by_cases e:t=d
        · rw [if_pos e,if_pos e]
        · rw [if_neg e, if_neg e]
          refine hF t ?_
          intro j hj hju
          exact ht j (.tail _ hj) (by rw [hset,if_neg (fun (e:j=i)=>hnE (e ▸ hj))]; exact hju)
  have hg:uY F' N ops o (aop P V N o F' H (fun x H'=>zDW P V N ops (putF F o.dst x) H' chk∧G (putF F o.dst x) H') KP) no:=by
    rw [kE hag,zA3 (zCc hag)]
    exact h
  refine zLT hio s hg ?_ ?_ (fun u Z' H' w' m' x' hk=>hpan u _ Z' H' w' (s.put (o:=none) (x:=.undef) (v:=undef) (s.mem.keeps x') m' (.undef _)) x' hk)
  · rintro x u Z' H' w' rx m' x' ⟨hag, hG⟩
    exact fin x u Z' H' w' rx m' x' (.inr hag) hG
  · intro hh
    exact fin (.tup []) undef Z H w zGd s.mem (.refl ..) (.inl rfl) (hno hh)
def Plan.sz:Plan→Nat
  | .done=>1
  | .fl _ rest=>rest.sz+1
  | .eff _ _ rest=>rest.sz+1
  | .both p q=>p.sz+q.sz+1
def zTh (P:Program) (V:Env) (N:Nat) (ops:Array Oper) (EL:List Nat) (F:Nat→A) (H:Heap) (K:(Nat→A)→Heap→Prop) (KP:Value→Heap→Prop) (i:Nat) (p:Plan):Prop :=
  ∃ chk rest,(∀ G:Prop,(∀ q,q=Plan.eff i chk rest→G)→G)∧rest.sz < p.sz∧decide (i < ops.size)=true∧zAI ops EL i=true∧zPE P ops EL i chk=true∧cov ops (i::EL) rest=true∧jO P ops (i::EL) rest=true ∧
    ∃ o,ops[i]?=some o∧uY F N ops o (aop P V N o F H (fun x H'=>zDW P V N ops (putF F o.dst x) H' chk∧dops P V N ops rest (putF F o.dst x) H' K KP) KP) (dops P V N ops rest (putF F o.dst (.tup [])) H K KP)
theorem zFY {EL:List Nat} {F:Nat→A} {H:Heap} {K:(Nat→A)→Heap→Prop} {KP:Value→Heap→Prop}:∀ (p:Plan) (hs:List Nat),p.heads=some hs→jO P ops EL p=true→dops P V N ops p F H K KP→∀ i ∈ hs,zTh P V N ops EL F H K KP i p
  | .done,hs,h,_,_,i,hi=>by cases h
  | .fl _ _,hs,h,_,_,i,hi=>by cases h
  | .eff j chk rest,hs,h,hok,hd,i,hi=>by
    cases h
    obtain rfl:i=j:=by simpa using hi
    simp only [jO,Bool.and_eq_true] at hok
    obtain ⟨⟨⟨⟨h1,h2⟩,h3⟩,h4⟩,h5⟩:=hok
    simp only [dops] at hd
    split at hd
    · rename_i o ho
      exact ⟨chk,rest,fun G hG=>hG _ rfl,by simp [Plan.sz],h1,h2,h3,h4,h5,o,ho,hd⟩
    · exact hd.elim
  | .both p q,hs,h,hok,hd,i,hi=>by
    simp only [jO,Bool.and_eq_true] at hok
    obtain ⟨⟨⟨hp,hq⟩,h1⟩,h2⟩:=hok
    obtain ⟨a,ha⟩:=Option.isSome_iff_exists.1 hp
    obtain ⟨b,hb⟩:=Option.isSome_iff_exists.1 hq
    simp only [Plan.heads,ha,hb,Option.some.injEq] at h
    subst h
    simp only [dops] at hd
    rcases List.mem_append.1 hi with hi | hi
    · obtain ⟨chk, rest, x1, x2, x3⟩ := zFY p a ha h1 hd.1 i hi
      exact ⟨chk,rest,x1,by simp only [Plan.sz]; omega,x3⟩
    · obtain ⟨chk, rest, x1, x2, x3⟩ := zFY q b hb h2 hd.2 i hi
      exact ⟨chk,rest,x1,by simp only [Plan.sz]; omega,x3⟩
theorem zFt {ro:Option Nat} {Q:Exit→Act→World→Prop} {K:(Nat→A)→Heap→Prop} {KP:Value→Heap→Prop}:∀ (n:Nat) (p:Plan),p.sz≤n→∀ {EL:List Nat} {F:Nat→A} {H:Heap},jO P ops EL p=true→cov ops EL p=true→dops P V N ops p F H K KP →
    ∀ (fuel:Nat) {L:Array Bool} {Z:Nat→Prop} {a:Act} {w:World},remN ops L≤fuel→Inv P V N ds ops L EL F H Z a w →
    (∀ F' Z' H' a' w',St V N ds Z' F' H' a' w'→Ext Z H w Z' H' w'→K F' H'→Q .normal a' w')→(∀ v F' Z' H' a' w',St V N ds Z' F' H' a' w'→Ext Z H w Z' H' w'→KP v H'→Q (.panic [{ v,recovered:=false }]) a' w')→wpAnyIn (wQ ro) 0 P .any ops Q fuel L a w:=by
  intro n
  induction n with
  | zero=>intro p hp; cases p <;> simp [Plan.sz] at hp
  | succ n ih =>
    intro p hpn EL F H hok hcov hd fuel
    cases p with
    | fl i rest =>
      intro L Z a w hrem v hQ hPn
      simp only [jO,Bool.and_eq_true] at hok
      obtain ⟨⟨⟨⟨h1,h2⟩,h3⟩,h4⟩,h5⟩:=hok
      obtain ⟨o,d,hio,hf,hdst,_,_⟩:=zAC h3
      simp only [dops,hio] at hd
      have hle:rest.sz≤n:=by simp only [Plan.sz] at hpn; omega
      rcases qW hd with ⟨g1,g2⟩ | ⟨g1,g2⟩
      · obtain ⟨x, k1, k2⟩ := zGM hf g1
        exact ih rest hle h5 h4 k1 fuel hrem (v.float hio hdst h2 h3 (g2 _ _ k2)) hQ hPn
      · exact ih rest hle h5 h4 g1 fuel hrem (v.float hio hdst h2 h3 (g2 _ _ rfl)) hQ hPn
    | done =>
      simp only [jO,List.all_eq_true,List.mem_range] at hok
      have hall:∀ i,i < ops.size→i ∈ EL:=fun i hi=>by simpa using hok i hi
      have full:∀ {L:Array Bool} {Z:Nat→Prop} {a:Act} {w:World},Inv P V N ds ops L EL F H Z a w→Region.ready .any ops L=[] →
          (∀ F' Z' H' a' w',St V N ds Z' F' H' a' w'→Ext Z H w Z' H' w'→K F' H'→Q .normal a' w')→Q .normal a w:=by
        intro L Z a w v hr hQ
        obtain ⟨F',s,hF⟩:=v.st
        have hnone:∀ j ∈ EL,L.getD j false=true:=by
          intro j hj
          cases e:L.getD j false with
          | true=>rfl
          | false =>
            obtain ⟨k,_,hk⟩:=Inv.next v.size v.ord v.esub ⟨j,hj,e⟩
            rw [hr] at hk; simp at hk
        have:F'=F:=funext fun d=>hF d fun j hj hu=>by rw [hnone j hj] at hu; cases hu
        subst this
        exact hQ F' Z H a w s (.refl ..) hd
      induction fuel with
      | zero =>
        intro L Z a w hrem v hQ hPn
        have hz:=zHe (ops:=ops) (L:=L) (by omega)
        have hr:Region.ready .any ops L=[]:=by
          cases e:Region.ready .any ops L with
          | nil=>rfl
          | cons j js =>
            have:=(kG v.size).1 (show j ∈ Region.ready .any ops L by rw [e]; exact .head _)
            rw [hz j this.1] at this; simp at this
        exact ⟨hr,full v hr hQ⟩
      | succ fuel ihf =>
        intro L Z a w hrem v hQ hPn
        refine ⟨fun hr=>full v hr hQ, ?_⟩
        intro i hi
        obtain ⟨hlt,hu,_⟩:=(kG v.size).1 hi
        refine v.step_pend (hall i hlt) hi ?_
        intro Z' a' w' v' x'
        obtain ⟨_,s0,_⟩:=v.st
        refine ihf ?_ v' (fun F2 Z2 H2 a2 w2 s2 x2 k2=>hQ F2 Z2 H2 a2 w2 s2 (x'.trans s0.mem.zlt x2) k2) (fun u F2 Z2 H2 a2 w2 s2 x2 k2=>hPn u F2 Z2 H2 a2 w2 s2 (x'.trans s0.mem.zlt x2) k2)
        have:=zI5 (ops:=ops) v.size hlt hu
        omega
    | eff j chk rest =>
      exact acting _ rfl hpn ih hok hcov hd fuel
    | both p q =>
      simp only [jO,Bool.and_eq_true] at hok
      obtain ⟨a,ha⟩:=Option.isSome_iff_exists.1 hok.1.1.1
      obtain ⟨b,hb⟩:=Option.isSome_iff_exists.1 hok.1.1.2
      exact acting (a++b) (by simp [Plan.heads,ha,hb]) hpn ih (by simp only [jO,Bool.and_eq_true]; exact hok) hcov hd fuel
where
  acting {ro:Option Nat} {Q:Exit→Act→World→Prop} {K:(Nat→A)→Heap→Prop} {KP:Value→Heap→Prop} {n:Nat} {p:Plan} (hs:List Nat) (hh:p.heads=some hs) (hpn:p.sz≤n+1)
      (ih:∀ (p:Plan),p.sz≤n→∀ {EL:List Nat} {F:Nat→A} {H:Heap},jO P ops EL p=true→cov ops EL p=true→dops P V N ops p F H K KP →
        ∀ (fuel:Nat) {L:Array Bool} {Z:Nat→Prop} {a:Act} {w:World},remN ops L≤fuel→Inv P V N ds ops L EL F H Z a w →
        (∀ F' Z' H' a' w',St V N ds Z' F' H' a' w'→Ext Z H w Z' H' w'→K F' H'→Q .normal a' w')→(∀ v F' Z' H' a' w',St V N ds Z' F' H' a' w'→Ext Z H w Z' H' w'→KP v H'→Q (.panic [{ v,recovered:=false }]) a' w')→wpAnyIn (wQ ro) 0 P .any ops Q fuel L a w)
      {EL:List Nat} {F:Nat→A} {H:Heap} (hok:jO P ops EL p=true) (hcov:cov ops EL p=true) (hd:dops P V N ops p F H K KP) (fuel:Nat) :
      ∀ {L:Array Bool} {Z:Nat→Prop} {a:Act} {w:World},remN ops L≤fuel→Inv P V N ds ops L EL F H Z a w →
        (∀ F' Z' H' a' w',St V N ds Z' F' H' a' w'→Ext Z H w Z' H' w'→K F' H'→Q .normal a' w')→(∀ v F' Z' H' a' w',St V N ds Z' F' H' a' w'→Ext Z H w Z' H' w'→KP v H'→Q (.panic [{ v,recovered:=false }]) a' w')→wpAnyIn (wQ ro) 0 P .any ops Q fuel L a w:=by
    have hat:=zFY p hs hh hok hd
    have hcov':∀ k,k < ops.size→zAI ops EL k=true→k ∈ hs:=by
      intro k hk hr
      simp only [cov,hh,List.all_eq_true,List.mem_range] at hcov
      have:=hcov k hk
      rw [hr] at this
      simpa using this
    -- some head is not done
    have hsome:∃ i,i < ops.size∧zAI ops EL i=true:=by
      have hne:∀ (p:Plan) (hs:List Nat),p.heads=some hs→hs≠[]:=by
        intro p
        induction p with
        | done=>intro hs h; cases h
        | fl=>intro hs h; cases h
        | eff=>intro hs h; cases h; simp
        | both p q ihp ihq =>
          intro hs h
          simp only [Plan.heads] at h
          split at h
          · rename_i a b ha hb
            cases h
            have:=ihp a ha
            simp [this]
          · cases h
      obtain ⟨i,hi⟩:=List.exists_mem_of_ne_nil hs (hne p hs hh)
      obtain ⟨chk,rest,_,_,h1,h2,_⟩:=hat i hi
      exact ⟨i,by simpa using h1,h2⟩
    have hnotall:∀ {L:Array Bool} {Z:Nat→Prop} {a:Act} {w:World},Inv P V N ds ops L EL F H Z a w→Region.ready .any ops L≠[]:=by
      intro L Z a w v hr
      obtain ⟨i,hi,hri⟩:=hsome
      simp only [zAI,Bool.and_eq_true,Bool.not_eq_true',List.all_eq_true] at hri
      have hnE:i ∉ EL:=by simpa using hri.1
      have hnone:∀ j ∈ EL,L.getD j false=true:=by
        intro j hj
        cases e:L.getD j false with
        | true=>rfl
        | false =>
          obtain ⟨k,_,hk⟩:=Inv.next v.size v.ord v.esub ⟨j,hj,e⟩
          rw [hr] at hk; simp at hk
      have hu:L.getD i false=false:=by
        cases e:L.getD i false with
        | false=>rfl
        | true=>exact absurd (v.lsub i e) hnE
      have:i ∈ Region.ready .any ops L:=(kG v.size).2 ⟨hi,hu,fun p hp=>hnone p (by simpa using hri.2 p hp)⟩
      rw [hr] at this; simp at this
    induction fuel with
    | zero =>
      intro L Z a w hrem v hQ hPn
      exfalso
      have hz:=zHe (ops:=ops) (L:=L) (by omega)
      refine hnotall v ?_
      cases e:Region.ready .any ops L with
      | nil=>rfl
      | cons j js =>
        have:=(kG v.size).1 (show j ∈ Region.ready .any ops L by rw [e]; exact .head _)
        rw [hz j this.1] at this; simp at this
    | succ fuel ihf =>
      intro L Z a w hrem v hQ hPn
      refine ⟨fun hr=>absurd hr (hnotall v), ?_⟩
      intro i hi
      obtain ⟨hlt,hu,hp⟩:=(kG v.size).1 hi
      have hless:=zI5 (ops:=ops) v.size hlt hu
      obtain ⟨_,s0,_⟩:=v.st
      by_cases hiE:i ∈ EL
      · refine v.step_pend hiE hi ?_
        intro Z' a' w' v' x'
        exact ihf (by omega) v' (fun F2 Z2 H2 a2 w2 s2 x2 k2=>hQ F2 Z2 H2 a2 w2 s2 (x'.trans s0.mem.zlt x2) k2) (fun u F2 Z2 H2 a2 w2 s2 x2 k2=>hPn u F2 Z2 H2 a2 w2 s2 (x'.trans s0.mem.zlt x2) k2)
      · have hrE : zAI ops EL i = true := by
          simp only [zAI,Bool.and_eq_true,Bool.not_eq_true',List.all_eq_true]
          exact ⟨by simpa using hiE,fun p hpp=>by simpa using v.lsub p (hp p hpp)⟩
        obtain ⟨chk,rest,_,hsz,_,_,h3,h4,h5,o,hio,hg⟩:=hat i (hcov' i hlt hrE)
        refine v.step_eff (G:=fun F H=>dops P V N ops rest F H K KP) hio hi hrE h3 hg (fun h=>h) ?_ (fun u F2 Z' H' w' s2 x2 k2=>hPn u F2 Z' H' a w' s2 x2 k2)
        intro F2 Z' H' a' w' v' x' hG
        exact ih rest (by omega) h5 h4 hG fuel (by omega) v' (fun F3 Z2 H2 a2 w2 s2 x2 k2=>hQ F3 Z2 H2 a2 w2 s2 (x'.trans s0.mem.zlt x2) k2) (fun u F3 Z2 H2 a2 w2 s2 x2 k2=>hPn u F3 Z2 H2 a2 w2 s2 (x'.trans s0.mem.zlt x2) k2)
theorem AWp.region_draw {ro:Option Nat} {id:Nat} {Q:Post} {F:Nat→A} {H:Heap} (p:Plan) (hm:P.follows .mixedOrders=true) (hok:jO P ops [] p=true) (hcov:cov ops [] p=true)
    (h:dops P V N ops p F H (fun F H=>Q .normal F H) (panQ Q fun _=>.undef)):AWp ro P V N (.region id ops true) Q F H:=by
  intro ds Z a w s
  refine wpIn_region_any hm ?_
  obtain ⟨m',x',k⟩:=s.mem.drew
  have s':St V N ds Z F H a w.drew:=⟨s.defers.keep k,s.size,fun i hi=>(s.slots i hi).keep k,m'⟩
  have hsz:(Array.replicate ops.size false).size=ops.size:=by simp
  have hget:∀ i,(Array.replicate ops.size false).getD i false=false:=by
    intro i
    simp only [Array.getD_eq_getD_getElem?,Array.getElem?_replicate]
    split <;> rfl
  refine zFt p.sz p (Nat.le_refl _) hok hcov h ops.size ?_ ⟨hsz, ?_, ?_, ?_,trivial, ?_,F,s',fun _ _=>rfl⟩ ?_ ?_
  · unfold remN
    exact Nat.le_trans List.countP_le_length (by simp)
  · intro i hi; rw [hget] at hi; cases hi
  · intro i hi; simp at hi
  · intro i hi; rw [hget] at hi; cases hi
  · intro i hi; simp at hi
  · intro F' Z' H' a' w' st x2 q
    exact ⟨Z',F',H',st,x'.trans s.mem.zlt x2,q⟩
  · intro v F' Z' H' a' w' st x2 q
    exact ⟨Z',_,H',st.blank,x'.trans s.mem.zlt x2,q⟩
end
end Go.Aug

/-
  The abstract layer: a range over a function.
-/
namespace Go.Aug
open Go.RowKit
def Iter (P:Program) (V:Env) (gf:FuncId) (caps:List A) (xs:List (List A)):Prop :=
  ∀ (l:Nat) (J:Nat→Heap→Prop) (JX:Heap→Prop) (H:Heap) (K:A→Heap→Prop),
    (∀ i x H,xs[i]?=some x→J i H→ARound P V l x H fun r H'=>(r=.d (.bool true)∧J (i+1) H')∨(r=.d (.bool false)∧JX H')) →
    J 0 H→(∀ H,J xs.length H→K (.tup []) H)→(∀ H,JX H→K (.tup []) H)→ACall P V gf (.yld l::caps) H K
def putL (F:Nat→A):List Nat→List A→Nat→A
  | p::ps,x::xs=>putL (updF F p x) ps xs
  | _,_=>F
def rngQ (J:Nat→Heap→Prop) (JX:Exit→Heap→Prop) (i:Nat):Post
  | .normal,_,G=>∃ G',LeH G' G∧J (i+1) G'
  | .ret,_,G=>∃ G',LeH G' G∧JX .ret G'
  | .exit id,_,G=>∃ G',LeH G' G∧JX (.exit id) G'
  | _,_,_=>False
def assQ (K:(Nat→A)→Heap→Prop):Post
  | .normal,F,G=>K F G
  | _,_,_=>False
def zO4:Exit→Bool
  | .ret=>true
  | .exit _=>true
  | _=>false
section
variable {P:Program} {V:Env} {N:Nat} {ds:Df} {Z:Nat→Prop} {F:Nat→A} {H:Heap} {a:Act} {w:World}
theorem Mem.lay (m:Mem V Z H w) (o:Obj):Mem V Z H (w.alloc o)∧Ext Z H w Z H (w.alloc o):=by
  have k:Keeps Z w Z (w.alloc o):=⟨by simp,fun b hb _=>uP w o b hb,fun _ _ h=>h⟩
  refine ⟨⟨fun b x hb=>(m.heap b x hb).keep k fun hw=>⟨m.own b ⟨x,hb,hw⟩,uP w o b (m.lt b x hb)⟩,fun b hb=>Nat.lt_of_lt_of_le (m.zlt b hb) k.size,m.env.keep k,fun b x hb=>Nat.lt_of_lt_of_le (m.lt b x hb) k.size⟩, ?_⟩
  exact ⟨rfl,rfl,rfl,by simp,fun b hb _=>uP w o b hb,fun _ h=>.inl h,fun _ h _=>h,fun _ h=>.inl h⟩
theorem Mem.turnObj {l:Nat} (m:Mem V Z H w) (hz:Z l) (ho:¬ Own H l) (o:Obj):Mem V Z H (w.putObj l o)∧Keeps Z w Z (w.putObj l o):=by
  have hb:∀ b,b≠l→(w.putObj l o).heap[b]?=w.heap[b]?:=fun b h=>World.putObj_heap_other h
  have k:Keeps Z w Z (w.putObj l o):=⟨by simp,fun b _ hzb=>hb b (fun e=>hzb (e ▸ hz)),fun _ _ h=>h⟩
  refine ⟨⟨fun b x hx=>(m.heap b x hx).keep k fun hw=>⟨m.own b ⟨x,hx,hw⟩,hb b (fun e=>ho (e ▸ ⟨x,hx,hw⟩))⟩,fun b hzb=>by simpa using m.zlt b hzb,m.env.keep k,fun b x hx=>by simpa using m.lt b x hx⟩,k⟩
theorem zI3:∀ (ps:List Nat) (xs:List A) (cv:List Value),cv.length=xs.length→xs.length=ps.length→(∀ j (h:j < cv.length) (h':j < xs.length),RepA V w Z cv[j] xs[j]) →
    ∀ (F:Nat→A) (T:Array Value),T.size=N→(∀ i,i < N→RepA V w Z (T.getD i undef) (F i)) →
      (((ps.zip cv).foldl (fun t (p,v)=>t.setIfInBounds p v) T).size=N∧∀ i,i < N→RepA V w Z (((ps.zip cv).foldl (fun t (p,v)=>t.setIfInBounds p v) T).getD i undef) (putL F ps xs i))
  | [],xs,cv,h1,h2,_,F,T,hT,hr=>by
    have:xs=[]:=List.eq_nil_of_length_eq_zero h2
    subst this
    exact ⟨by simpa using hT,fun i hi=>by simpa [putL] using hr i hi⟩
  | p::ps,[],cv,h1,h2,_,F,T,hT,hr=>by simp at h2
  | p::ps,x::xs,[],h1,h2,_,F,T,hT,hr=>by simp at h1
  | p::ps,x::xs,v::cv,h1,h2,h3,F,T,hT,hr=>by
    simp only [List.zip_cons_cons,List.foldl_cons,putL]
    refine zI3 ps xs cv (by simpa using h1) (by simpa using h2) (fun j hj hj'=>h3 (j+1) (by simpa using hj) (by simpa using hj')) _ _ (by simp [hT]) ?_
    intro i hi
    simp only [updF]
    by_cases e:i=p
    · subst e
      rw [if_pos rfl,Array.getD_eq_getD_getElem?,Array.getElem?_setIfInBounds]
      simp only [hT,hi,if_true,Option.getD_some]
      exact h3 0 (by simp) (by simp)
    · rw [if_neg e]
      have:=hr i hi
      rw [Array.getD_eq_getD_getElem?] at this ⊢
      rw [Array.getElem?_setIfInBounds,if_neg (fun h=>e h.symm)]
      exact this
theorem ARound.of {l:Nat} {L:Loop} {F0:Nat→A} {G:Heap} {x:List A} {JN:Heap→Prop} {JX:Exit→Heap→Prop} {i:Nat} (hst:L.state=.ready) (hpe:L.pending=none) (hG:G l=none) (hx:x.length=L.params.size)
    (h:AWp (some l) P V N L.assign (assQ fun F1 G1=>AWp (some l) P V N L.body (rngQ (fun _=>JN) JX i) F1 G1) (putL F0 L.params.toList x) G) :
    ARound P V l x (upd G l (.loop L N F0)) fun r H' =>
      (r=.d (.bool true)∧∃ G',H'=upd G' l (.loop L N F0)∧G' l=none∧JN G') ∨
      (r=.d (.bool false)∧∃ G' c,H'=upd G' l (.loop { L with state:=.done,pending:=some c } N F0)∧G' l=none∧((c=.ret∧JX .ret G')∨∃ id,c=.exit id∧JX (.exit id) G')):=by
  intro Z w cv hl hr m
  obtain ⟨hz,hh,hn,hs⟩:=m.heap l _ (zV G l _)
  have hle:LeH G (upd G l (.loop L N F0)):=fun b o hb=>by
    by_cases e:b=l
    · subst e; rw [hG] at hb; cases hb
    · rw [xI _ _ e]; exact hb
  have hlt:l < w.heap.size:=m.zlt l hz
  have hy:=run_yield (P:=P) (args:=cv.toArray) hh (by simp [hl,hx])
  refine ⟨L.fn,_,L.assign,L.body,hy,roundIn_of_wpIn trivial ?_⟩
  have m0:=m.le hle
  have hrep:=zI3 (V:=V) (w:=w) (Z:=Z) (N:=N) L.params.toList x cv hl (by simpa using hx) hr F0 L.tmps hn hs
  have hfold:(L.params.zip cv.toArray).foldl (fun tmps (t,a)=>tmps.setIfInBounds t a) L.tmps=(L.params.toList.zip cv).foldl (fun t (p,v)=>t.setIfInBounds p v) L.tmps:=by
    rw [←Array.foldl_toList,Array.toList_zip]
  rw [hfold]
  generalize (L.params.toList.zip cv).foldl (fun t (p,v)=>t.setIfInBounds p v) L.tmps=T at hrep
  have st:St V N ⟨[],w.heap.size⟩ Z (putL F0 L.params.toList x) G { tmps:=T,defers:=[] } w:=⟨.none _ (Nat.le_refl _),hrep.1,hrep.2,m0⟩
  have hnoG:¬ Own G l:=fun ⟨o,ho,_⟩=>by rw [hG] at ho; cases ho
  refine wpIn_mono (h _ Z _ w st) ?_
  rintro e a1 w1 ⟨Z1,F1,G1,st1,x1,q⟩
  cases e with
  | normal =>
    have hz1:Z1 l:=x1.zold l hz hnoG
    have hh1:w1.heap[l]?=some (.loop L):=(x1.block l hlt hnoG).trans hh
    have hno1:¬ Own G1 l:=fun ho=>by rcases x1.own l ho with h | h; exact hnoG h; omega
    have hlt1:l < w1.heap.size:=Nat.lt_of_lt_of_le hlt x1.size
    refine ⟨_,run_beginRound hh1 hst, ?_⟩
    obtain ⟨m2,k2⟩:=st1.mem.turnObj hz1 hno1 (.loop { L with state:=.busy })
    have st2:St V N ⟨[],w.heap.size⟩ Z1 F1 G1 a1 (w1.putObj l (.loop { L with state:=.busy })):=⟨st1.defers.keep k2,st1.size,fun i hi=>(st1.slots i hi).keep k2,m2⟩
    have hh2:(w1.putObj l (.loop { L with state:=.busy })).heap[l]?=some (.loop { L with state:=.busy }):=World.putObj_heap_same hlt1
    refine wpIn_mono (q _ Z1 a1 _ st2) ?_
    rintro e a3 w3 ⟨Z3,F3,G3,st3,x3,q3⟩
    have hz3:Z3 l:=x3.zold l hz1 hno1
    have hlt2:l < (w1.putObj l (.loop { L with state:=.busy })).heap.size:=by simpa using hlt1
    have hh3:w3.heap[l]?=some (.loop { L with state:=.busy }):=(x3.block l hlt2 hno1).trans hh2
    have hno3:¬ Own G3 l:=fun ho=>by rcases x3.own l ho with h | h; exact hno1 h; omega
    -- what stands behind
    have fin:∀ (jump:Option Code) (G':Heap),LeH G' G3 →
        ∃ w4,(Instr.endRound l jump).run P w3=.ok (.bool jump.isNone) w4∧G' l=none ∧
          Mem V Z3 (upd G' l (.loop { L with state:=if jump.isNone then .ready else .done,pending:=jump } N F0)) w4 ∧
          Ext Z (upd G l (.loop L N F0)) w Z3 (upd G' l (.loop { L with state:=if jump.isNone then .ready else .done,pending:=jump } N F0)) w4:=by
      intro jump G' hleG
      have hG2l:G' l=none:=by
        cases hg:G' l with
        | none=>rfl
        | some o =>
          have ho:=st3.mem.heap l o (hleG l o hg)
          have hno:¬ o.owns=true:=fun hw=>hno3 ⟨o,hleG l o hg,hw⟩
          cases o with
          | frz v es =>
            obtain ⟨_,_,c,t,z,h3⟩:=ho
            rw [hh3] at h3; cases h3
          | _=>exact absurd rfl hno
      refine ⟨_,run_endRound jump hh3,hG2l, ?_⟩
      have hno2:¬ Own G' l:=fun ⟨o,ho,_⟩=>by rw [hG2l] at ho; cases ho
      obtain ⟨m4,k4⟩:=(st3.mem.le hleG).turnObj hz3 hno2 (.loop { L with state:=if jump.isNone then .ready else .done,pending:=jump })
      have hlt3:l < w3.heap.size:=Nat.lt_of_lt_of_le hlt2 x3.size
      have k04:Keeps Z w Z3 (w3.putObj l (.loop { L with state:=if jump.isNone then .ready else .done,pending:=jump })):=by
        have k1:=m0.keeps x1
        have k3:=m2.keeps x3
        refine ⟨Nat.le_trans k1.size (Nat.le_trans k2.size (Nat.le_trans k3.size k4.size)),fun b hb hzb=>?_,fun b hb hzb=>?_⟩
        · have z1 := k1.out b hb hzb
          have b1:=Nat.lt_of_lt_of_le hb k1.size
          have z2:=k2.out b b1 z1
          have b2:=Nat.lt_of_lt_of_le b1 k2.size
          have z3:=k3.out b b2 z2
          have b3:=Nat.lt_of_lt_of_le b2 k3.size
          rw [k4.block b b3 z3,k3.block b b2 z2,k2.block b b1 z1,k1.block b hb hzb]
        · exact k4.out b (Nat.lt_of_lt_of_le (Nat.lt_of_lt_of_le (Nat.lt_of_lt_of_le hb k1.size) k2.size) k3.size) (k3.out b (Nat.lt_of_lt_of_le (Nat.lt_of_lt_of_le hb k1.size) k2.size) (k2.out b (Nat.lt_of_lt_of_le hb k1.size) (k1.out b hb hzb)))
      refine ⟨⟨fun b o hb=>?_,fun b hb=>m4.zlt b hb,m4.env,fun b o hb=>?_⟩,⟨x3.os.trans x1.os,x3.tape.trans x1.tape,x3.output.trans x1.output,k04.size,fun b hb ho=>?_,fun b hb=>?_,fun b hb ho=>?_,fun b hb=>?_⟩⟩
      · by_cases e : b = l
        · subst e
          rw [zV] at hb
          cases hb
          exact ⟨hz3,World.putObj_heap_same hlt3,hn,fun i hi=>(hs i hi).keep k04⟩
        · rw [xI _ _ e] at hb
          exact m4.heap b o hb
      · by_cases e : b = l
        · subst e; simpa using hlt3
        · rw [xI _ _ e] at hb
          exact m4.lt b o hb
      · have hne : b ≠ l := fun e => ho (e ▸ ⟨_, zV .., rfl⟩)
        have hoG:¬ Own G b:=fun ⟨o,h1,h2⟩=>ho ⟨o,by rw [xI _ _ hne]; exact h1,h2⟩
        have hoG1:¬ Own G1 b:=fun h=>by rcases x1.own b h with h' | h'; exact hoG h'; omega
        have b1:b < w1.heap.size:=Nat.lt_of_lt_of_le hb x1.size
        rw [World.putObj_heap_other hne,x3.block b (by simpa using b1) hoG1,World.putObj_heap_other hne,x1.block b hb hoG]
      · rcases x3.znew b hb with h | h
        · rcases x1.znew b h with h' | h'
          · exact .inl h'
          · exact .inr h'
        · have:=x1.size; simp at h; exact .inr (by omega)
      · have hne : b ≠ l := fun e => ho (e ▸ ⟨_, zV .., rfl⟩)
        have hoG:¬ Own G b:=fun ⟨o,h1,h2⟩=>ho ⟨o,by rw [xI _ _ hne]; exact h1,h2⟩
        have hoG1:¬ Own G1 b:=fun h=>by
          rcases x1.own b h with h' | h'
          · exact hoG h'
          · have:=m.zlt b hb; omega
        exact x3.zold b (x1.zold b hb hoG) hoG1
      · obtain ⟨o, h1, h2⟩ := hb
        by_cases e:b=l
        · subst e; exact .inl ⟨_,zV ..,rfl⟩
        · rw [xI _ _ e] at h1
          rcases x3.own b ⟨o,hleG b o h1,h2⟩ with h | h
          · rcases x1.own b h with ⟨o', h3, h4⟩ | h'
            · exact .inl ⟨o',by rw [xI _ _ e]; exact h3,h4⟩
            · exact .inr h'
          · have:=x1.size; simp at h; exact .inr (by omega)
    have hLr:({ L with state:=if (none:Option Code).isNone then .ready else .done,pending:=none }:Loop)=L:=by
      cases L; simp only at hst hpe; subst hst; subst hpe; rfl
    cases e with
    | normal =>
      obtain ⟨G',hle',hJ⟩:=q3
      obtain ⟨w4,h1,h2,h3,h4⟩:=fin none G' hle'
      rw [hLr] at h3 h4
      exact ⟨_,w4,h1,_,_,Z3,_,rfl,.d _ _ (.bool _),h3,h4,.inl ⟨rfl,G',rfl,h2,hJ⟩⟩
    | ret =>
      obtain ⟨G',hle',hJ⟩:=q3
      obtain ⟨w4,h1,h2,h3,h4⟩:=fin (some .ret) G' hle'
      exact ⟨_,w4,h1,_,_,Z3,_,rfl,.d _ _ (.bool _),h3,h4,.inr ⟨rfl,G',_,rfl,h2,.inl ⟨rfl,hJ⟩⟩⟩
    | exit id =>
      obtain ⟨G',hle',hJ⟩:=q3
      obtain ⟨w4,h1,h2,h3,h4⟩:=fin (some (.exit id)) G' hle'
      exact ⟨_,w4,h1,_,_,Z3,_,rfl,.d _ _ (.bool _),h3,h4,.inr ⟨rfl,G',_,rfl,h2,.inr ⟨id,rfl,hJ⟩⟩⟩
    | _=>exact q3.elim
  | _=>exact q.elim
theorem Keeps.trans {Z0 Z1 Z2:Nat→Prop} {w0 w1 w2:World} (h:Keeps Z0 w0 Z1 w1) (k:Keeps Z1 w1 Z2 w2):Keeps Z0 w0 Z2 w2 :=
  ⟨Nat.le_trans h.size k.size,fun b hb hz=>(k.block b (Nat.lt_of_lt_of_le hb h.size) (h.out b hb hz)).trans (h.block b hb hz),fun b hb hz=>k.out b (Nat.lt_of_lt_of_le hb h.size) (h.out b hb hz)⟩
theorem AWp.range {g:Operand} {ps:Array Tmp} {assign body:Code} {gf:FuncId} {caps:List A} {xs:List (List A)} {J:Nat→Heap→Prop} {JX:Exit→Heap→Prop} {Q:Post}
    (hg:ev V N F g=.func gf caps) (hcb:zH P gf=true) (hit:Iter P V gf caps xs) (hps:∀ x ∈ xs,x.length=ps.size) (h0:J 0 H)
    (hr:∀ i x G,xs[i]?=some x→J i G→∀ l,AWp (some l) P V N assign (assQ fun F1 G1=>AWp (some l) P V N body (rngQ J JX i) F1 G1) (putL F ps.toList x) G)
    (hd:∀ G,J xs.length G→Q .normal F G) (hx:∀ e G,zO4 e=true→JX e G→Q e F G):AWp none P V N (.rangeFunc g ps assign body) Q F H:=by
  intro ds Z a w s
  have rg:=xM s g
  rw [hg] at rg
  generalize hgv:a.eval g=v at rg
  cases rg with
  | func _ cv _ hcl hcr =>
  refine wpIn_rangeFunc ?_
  intro fn _
  obtain ⟨L,hL⟩:∃ L:Loop,L={ state:=.ready,pending:=none,fn,tmps:=a.tmps,params:=ps,assign,body,defers:=w.heap.size }:=⟨_,rfl⟩
  obtain ⟨mA,xA⟩:=s.mem.lay (.deferred (some []))
  have hsz:(w.alloc (.deferred (some []))).heap.size=w.heap.size+1:=by simp
  obtain ⟨mB,xB⟩:=mA.alloc (.loop L) (.loop L N F) ⟨.inr rfl,World.alloc_heap_new _ _,by rw [hL]; exact s.size,fun i hi=>by
    have:L.tmps=a.tmps:=by rw [hL]
    rw [this]
    exact ((s.slots i hi).keep (s.mem.keeps xA)).keep (uZ mA _)⟩
  rw [hsz] at mB xB
  have hD:((w.alloc (.deferred (some []))).alloc (.loop L)).heap[w.heap.size]?=some (.deferred (some [])):=(uP _ _ _ (by simp)).trans (World.alloc_heap_new w _)
  have hold:∀ b,b < w.heap.size→((w.alloc (.deferred (some []))).alloc (.loop L)).heap[b]?=w.heap[b]?:=fun b hb=>(uP _ _ _ (by simp; omega)).trans (uP _ _ _ hb)
  have hW:((w.alloc (.deferred (some []))).alloc (.loop L)).heap.size=w.heap.size+2:=by simp
  have hent:(Instr.enterLoop fn a.tmps ps assign body (wQ none).round).run P w=.ok (w.heap.size+1,[mark w.heap.size]) ((w.alloc (.deferred (some []))).alloc (.loop L)):=by
    rw [hL]; exact run_enterLoop_outer _ _ _ _ _
  have kAB:Keeps Z w (Zp Z (w.heap.size+1)) ((w.alloc (.deferred (some []))).alloc (.loop L)):=(s.mem.keeps xA).trans (mA.keeps xB)
  generalize ((w.alloc (.deferred (some []))).alloc (.loop L))=W at mB xB hD hold hW hent kAB
  have hcall:∃ fn,P.funcs[gf]?=some fn∧fn.name ≠ "runtime.NumGoroutine" ∧ ¬ fn.body=none:=by
    unfold zH at hcb
    split at hcb
    · rename_i fn hfn
      simp only [Bool.and_eq_true,bne_iff_ne] at hcb
      exact ⟨fn,hfn,hcb.1,fun e=>by rw [e] at hcb; simp at hcb⟩
    · cases hcb
  obtain ⟨fn',hfn',hne',hnone'⟩:=hcall
  refine ⟨w.heap.size+1,[mark w.heap.size],W,{ target:=.fn (.func gf) cv.toArray,args:=#[.func (.yield (w.heap.size+1)) #[] #[]] },W,gf,#[.func (.yield (w.heap.size+1)) #[] #[]]++cv.toArray,W,hent, ?_,fun _ _=>trivial, ?_,kI _ _,callsIn_roundF.2 ?_⟩
  · simp only [resolve, hgv]
    simp [Deferred.ofValue,Act.eval]
  · simp [invoke,callFunc,hfn',hne',hnone']
  have hHl:H (w.heap.size+1)=none:=by
    cases h:H (w.heap.size+1) with
    | none=>rfl
    | some o=>have:=s.mem.lt _ _ h; omega
  have hLs:L.state=.ready:=by rw [hL]
  have hLp:L.pending=none:=by rw [hL]
  have hLa:L.assign=assign:=by rw [hL]
  have hLb:L.body=body:=by rw [hL]
  have hLps:L.params=ps:=by rw [hL]
  have hLt:L.tmps=a.tmps:=by rw [hL]
  -- the iterator is called
  have hrun:=hit (w.heap.size+1) (fun i G=>∃ G0,G=upd G0 (w.heap.size+1) (.loop L N F)∧G0 (w.heap.size+1)=none∧J i G0)
    (fun G=>∃ G0 c,G=upd G0 (w.heap.size+1) (.loop { L with state:=.done,pending:=some c } N F)∧G0 (w.heap.size+1)=none∧((c=.ret∧JX .ret G0)∨∃ id,c=.exit id∧JX (.exit id) G0))
    (upd H (w.heap.size+1) (.loop L N F))
    (fun r G=>∃ G0 st pe,G=upd G0 (w.heap.size+1) (.loop { L with state:=st,pending:=pe } N F)∧G0 (w.heap.size+1)=none∧st≠.busy∧((pe=none∧J xs.length G0)∨(pe=some .ret∧JX .ret G0)∨∃ id,pe=some (.exit id)∧JX (.exit id) G0))
    (by
      rintro i x _ hxi ⟨G0,rfl,hG0,hJ⟩
      have hA:=hr i x G0 hxi hJ (w.heap.size+1)
      rw [←hLa,←hLb,←hLps] at hA
      refine (ARound.of (JN:=J (i+1)) (i:=i) hLs hLp hG0 (by rw [hLps]; exact hps x (List.mem_of_getElem? hxi)) hA).mono ?_
      rintro r H' (⟨h1,G',h2,h3,h4⟩ | ⟨h1,G',c,h2,h3,h4⟩)
      · exact .inl ⟨h1,G',h2,h3,h4⟩
      · exact .inr ⟨h1,G',c,h2,h3,h4⟩)
    ⟨H,rfl,hHl,h0⟩
    (by
      rintro _ ⟨G0,rfl,hG0,hJ⟩
      refine ⟨G0,.ready,none, ?_,hG0,by simp,.inl ⟨rfl,hJ⟩⟩
      have:({ L with state:=.ready,pending:=none }:Loop)=L:=by cases L; simp only at hLs hLp; subst hLs; subst hLp; rfl
      rw [this])
    (by
      rintro _ ⟨G0,c,rfl,hG0,hJ⟩
      refine ⟨G0,.done,some c,rfl,hG0,by simp,.inr ?_⟩
      rcases hJ with ⟨rfl,h⟩ | ⟨id,rfl,h⟩
      · exact .inl ⟨rfl,h⟩
      · exact .inr ⟨id,rfl,h⟩)
  have hargs:#[Value.func (.yield (w.heap.size+1)) #[] #[]]++cv.toArray=(Value.func (.yield (w.heap.size+1)) #[] #[]::cv).toArray:=by apply Array.ext'; simp
  rw [hargs]
  refine (hrun _ W (Value.func (.yield (w.heap.size+1)) #[] #[]::cv) (by simp [hcl]) (fun j hj hj'=>?_) mB).mono ?_
  · cases j with
    | zero=>exact .yld _
    | succ j=>exact (hcr j (by simpa using hj) (by simpa using hj')).keep kAB
  rintro e w3 ⟨v3,r3,Z3,G,rfl,_,m3,x3,G0,st0,pe,rfl,hG0,hst0,hpe⟩
  obtain ⟨hz3,hh3,hn3,hs3⟩:=m3.heap _ _ (zV G0 _ _)
  refine ⟨pe,_,run_endLoop hh3 hst0, ?_⟩
  have hle:LeH G0 (upd G0 (w.heap.size+1) (.loop { L with state:=st0,pending:=pe } N F)):=fun b o hb=>by
    by_cases e:b=w.heap.size+1
    · subst e; rw [hG0] at hb; cases hb
    · rw [xI _ _ e]; exact hb
  have hno:¬ Own G0 (w.heap.size+1):=fun ⟨o,ho,_⟩=>by rw [hG0] at ho; cases ho
  obtain ⟨m4,k4⟩:=(m3.le hle).turnObj hz3 hno (.loop { { L with state:=st0,pending:=pe } with state:=.exhausted })
  have k3:=mB.keeps x3
  have k04:=(kAB.trans k3).trans k4
  have hHno:∀ b,b < w.heap.size∨b=w.heap.size→¬ Own H b→¬ Own (upd H (w.heap.size+1) (.loop L N F)) b:=by
    rintro b hb ho ⟨o,h1,h2⟩
    rw [xI _ _ (by omega)] at h1
    exact ho ⟨o,h1,h2⟩
  have hDno:¬ Own H w.heap.size:=fun ⟨o,h1,_⟩=>by have:=s.mem.lt _ _ h1; omega
  have st4:St V N ds Z3 F G0 { a with defers:=[mark w.heap.size]++a.defers } (w3.putObj (w.heap.size+1) (.loop { { L with state:=st0,pending:=pe } with state:=.exhausted })):=by
    refine ⟨?_,s.size,fun i hi=>?_,m4⟩
    · obtain ⟨b0, ms, e1, e2, e3⟩ := s.defers
      refine ⟨Nat.le_trans b0 k04.size,w.heap.size::ms,by simp [e1],List.nodup_cons.2 ⟨fun hm=>by have:=(e3 _ hm).2.2.1; omega,e2⟩,fun D hDm=>?_⟩
      rcases List.mem_cons.1 hDm with rfl | hDm
      · refine ⟨b0, fun hz => ?_, Nat.lt_of_lt_of_le (show w.heap.size < W.heap.size by omega) (Nat.le_trans x3.size k4.size), ?_, ?_⟩
        · rcases x3.znew _ hz with h | h
          · rcases h with h | h
            · have:=s.mem.zlt _ h; omega
            · omega
          · omega
        · rw [World.putObj_heap_other (by omega), x3.block _ (by omega) (hHno _ (.inr rfl) hDno)]
          exact hD
        · cases hM : V.M w.heap.size with
          | none=>rfl
          | some o=>have:=(s.mem.env.fix _ _ hM).2.1; omega
      · obtain ⟨c1, c2, c3, c4, c5⟩ := e3 D hDm
        exact ⟨c1,k04.out D c3 c2,Nat.lt_of_lt_of_le c3 k04.size,(k04.block D c3 c2).trans c4,c5⟩
    · have := hs3 i hi
      simp only [hLt] at this
      exact this.keep k4
  have ext4:Ext Z H w Z3 G0 (w3.putObj (w.heap.size+1) (.loop { { L with state:=st0,pending:=pe } with state:=.exhausted })):=by
    refine ⟨x3.os.trans (xB.os.trans xA.os),x3.tape.trans (xB.tape.trans xA.tape),x3.output.trans (xB.output.trans xA.output),k04.size,fun b hb ho=>?_,fun b hb=>?_,fun b hb ho=>?_,fun b hb=>?_⟩
    · rw [World.putObj_heap_other (by omega),x3.block b (by omega) (hHno b (.inl hb) ho),hold b hb]
    · rcases x3.znew b hb with h | h
      · rcases h with h | h
        · exact .inl h
        · exact .inr (by omega)
      · exact .inr (by omega)
    · have := s.mem.zlt b hb
      exact x3.zold b (.inl hb) (hHno b (.inl this) ho)
    · obtain ⟨o, h1, h2⟩ := hb
      have hne:b≠w.heap.size+1:=fun e=>by rw [e,hG0] at h1; cases h1
      rcases x3.own b ⟨o,hle b o h1,h2⟩ with ⟨o',h3,h4⟩ | h
      · rw [xI _ _ hne] at h3
        exact .inl ⟨o',h3,h4⟩
      · exact .inr (by omega)
  rcases hpe with ⟨rfl,hJ⟩ | ⟨rfl,hJ⟩ | ⟨id,rfl,hJ⟩
  · exact ⟨Z3,F,G0,st4,ext4,hd G0 hJ⟩
  · exact wpIn_ret ⟨Z3,F,G0,st4,ext4,hx .ret G0 rfl hJ⟩
  · exact wpIn_exit ⟨Z3,F,G0,st4,ext4,hx (.exit id) G0 rfl hJ⟩
end
end Go.Aug

/-
  The abstract layer, part S: code in short, and what it asks.
-/
namespace Go.Aug
def gif (b:Bool) (x y:Prop):Prop:=if b=true then x else y
@[congr] theorem zTe {b b':Bool} {x y:Prop} (h:b=b'):gif b x y=gif b' x y:=by rw [h]
@[simp] theorem zM2 {x y:Prop}:gif true x y=x:=if_pos rfl
@[simp] theorem zKG {x y:Prop}:gif false x y=y:=if_neg (by simp)
theorem zKH {b:Bool} {x y:Prop} (h1:b=true→x) (h2:b=false→y):gif b x y:=by
  cases b
  · exact h2 rfl
  · exact h1 rfl
structure SOper where
  dst:Option Nat
  gd:Option (Option Nat×Bool)
  op:Op
inductive zE7 where
  | no
  | done
  | fl (o:SOper) (rest:zE7)
  | eff (o:SOper) (chk:List SOper) (rest:zE7)
  | both (p q:zE7)
inductive SCode where
  | no
  | skip
  | reg (keep:Option (List Nat)) (ops:List SOper)
  | dreg (keep:Option (List Nat)) (p:zE7)
  | seq (x y:SCode)
  | cond (c:Operand) (x y:SCode)
  | block (id:Nat) (c:SCode)
  | exit (id:Nat)
  | ret
  | loop (c:SCode)
  | range (g:Operand) (ps:List Nat) (x y:SCode)
def short (ops:Array Oper) (o:Oper):SOper:={ dst:=o.dst,gd:=o.guard.map fun p=>((ops[p.1]?).bind (·.dst),p.2),op:=o.op }
def zJd (ops:Array Oper):List Nat→List SOper
  | []=>[]
  | i::l=>match ops[i]? with
    | some o=>short ops o::zJd ops l
    | none=>[]
def Plan.short (ops:Array Oper):Plan→zE7
  | .done=>.done
  | .fl i rest=>match ops[i]? with
    | some o=>.fl (Aug.short ops o) (rest.short ops)
    | none=>.no
  | .eff i chk rest=>match ops[i]? with
    | some o=>.eff (Aug.short ops o) (zJd ops chk) (rest.short ops)
    | none=>.no
  | .both p q=>.both (p.short ops) (q.short ops)
def toS (plans:Nat→Plan) (keeps:Nat→Option (List Nat)):Code→SCode
  | .skip=>.skip
  | .seq x y=>.seq (toS plans keeps x) (toS plans keeps y)
  | .region id ops false=>.reg (keeps id) (ops.toList.map (short ops))
  | .region id ops true=>.dreg (keeps id) ((plans id).short ops)
  | .cond c x y=>.cond c (toS plans keeps x) (toS plans keeps y)
  | .block id c=>.block id (toS plans keeps c)
  | .exit id=>.exit id
  | .ret=>.ret
  | .loop c=>.loop (toS plans keeps c)
  | .rangeFunc g ps x y=>.range g ps.toList (toS plans keeps x) (toS plans keeps y)
  | _=>.no
def zCS (P:Program) (plans:Nat→Plan):Code→Bool
  | .seq x y=>zCS P plans x && zCS P plans y
  | .region id ops true=>jO P ops [] (plans id) && cov ops [] (plans id)
  | .cond _ x y=>zCS P plans x && zCS P plans y
  | .block _ c=>zCS P plans c
  | .loop c=>zCS P plans c
  | _=>true
def zKN (F:Nat→A):List Nat→Nat→A
  | []=>fun _=>.undef
  | s::l=>updF (zKN F l) s (F s)
def zGX (F:Nat→A):Option (List Nat)→Nat→A
  | none=>F
  | some l=>zKN F l
def FrameIs (F:Nat→A):List (Nat×A)→Prop
  | []=>True
  | (s,x)::l=>F s=x∧FrameIs F l
def yT (N:Nat) (F:Nat→A) (o:SOper) (yes no:Prop):Prop :=
  match o.gd with
  | none=>yes
  | some (some d,want)=>if d < N then match F d with
    | .d (.bool b)=>match want with
      | true=>gif b yes no
      | false=>gif b no yes
    | .tup []=>no
    | _=>False
    else False
  | some (none,_)=>False
def sops (P:Program) (V:Env) (N:Nat):List SOper→(Nat→A)→Heap→((Nat→A)→Heap→Prop)→(Value→Heap→Prop)→Prop
  | [],F,H,K,_=>K F H
  | o::rest,F,H,K,KP=>yT N F o (aopO P V N o.op F H (fun x H'=>sops P V N rest (putF F o.dst x) H' K KP) KP) (sops P V N rest (putF F o.dst (.tup [])) H K KP)
def yX (P:Program) (V:Env) (N:Nat) (F:Nat→A) (H:Heap):List SOper→Prop
  | []=>True
  | o::js=>(match o.dst with
    | some d=>yT N F o (aopO P V N o.op F H (fun y _=>y=F d) noP) (F d=.tup [])
    | none=>False)∧yX P V N F H js
def xQ (P:Program) (V:Env) (N:Nat):zE7→(Nat→A)→Heap→((Nat→A)→Heap→Prop)→(Value→Heap→Prop)→Prop
  | .no,_,_,_,_=>False
  | .done,F,H,K,_=>K F H
  | .fl o rest,F,H,K,KP=>yT N F o (aopO P V N o.op F H (fun x H'=>xQ P V N rest (putF F o.dst x) H' K KP) KP) (xQ P V N rest (putF F o.dst (.tup [])) H K KP)
  | .eff o chk rest,F,H,K,KP=>yT N F o (aopO P V N o.op F H (fun x H'=>yX P V N (putF F o.dst x) H' chk∧xQ P V N rest (putF F o.dst x) H' K KP) KP) (xQ P V N rest (putF F o.dst (.tup [])) H K KP)
  | .both p q,F,H,K,KP=>xQ P V N p F H K KP∧xQ P V N q F H K KP
def svc (P:Program) (V:Env) (N:Nat):SCode→Post→(Nat→A)→Heap→Prop
  | .no,_,_,_=>False
  | .skip,Q,F,H=>Q .normal F H
  | .reg k ops,Q,F,H=>sops P V N ops (zGX F k) H (fun F H=>Q .normal F H) (panQ Q (zEj (zGX F k) (ops.map (·.dst))))
  | .dreg k p,Q,F,H=>xQ P V N p (zGX F k) H (fun F H=>Q .normal F H) (panQ Q fun _=>.undef)
  | .seq x y,Q,F,H=>svc P V N x (wD (fun F H=>svc P V N y Q F H) Q) F H
  | .cond c x y,Q,F,H=>match ev V N F c with
    | .d (.bool b)=>gif b (svc P V N x Q F H) (svc P V N y Q F H)
    | _=>False
  | .block id c,Q,F,H=>svc P V N c (zW id Q) F H
  | .exit id,Q,F,H=>Q (.exit id) F H
  | .ret,Q,F,H=>Q .ret F H
  | .loop c,Q,F,H=>turn V N F H fun F H=>∃ (X:Type) (l:X→List (Nat×A)) (J:X→Heap→Prop) (m:X→Nat) (x0:X) (H0:Heap),J x0 H0∧FrameIs F (l x0)∧LeH H0 H ∧
      ∀ x H,J x H→svc P V N c (wD (fun F' H'=>turn V N F' H' fun F' H'=>∃ x' H'',J x' H''∧m x' < m x∧FrameIs F' (l x')∧LeH H'' H') Q) (mkF (l x)) H
  | .range g ps x y,Q,F,H=>turn V N F H fun F H=>∃ (gf:FuncId) (caps:List A) (xs:List (List A)) (J:Nat→Heap→Prop) (JX:Exit→Heap→Prop) (l:List (Nat×A)) (H0:Heap),
      ev V N (mkF l) g=.func gf caps∧zH P gf=true∧Iter P V gf caps xs∧(∀ x ∈ xs,x.length=ps.length)∧J 0 H0∧FrameIs F l∧LeH H0 H ∧
        (∀ i z G,xs[i]?=some z→J i G→svc P V N x (assQ fun F1 G1=>svc P V N y (rngQ J JX i) F1 G1) (putL (mkF l) ps z) G) ∧
        (∀ G,J xs.length G→Q .normal (mkF l) G)∧(∀ e G,zO4 e=true→JX e G→Q e (mkF l) G)
section
variable {P:Program} {V:Env} {N:Nat}
theorem zDA (F:Nat→A) (k:Option (List Nat)):LeF (zGX F k) F:=by
  cases k with
  | none=>exact .refl _
  | some l =>
    simp only [zGX]
    induction l with
    | nil=>exact fun _=>.inr rfl
    | cons s l ih =>
      intro i
      simp only [zKN,updF]
      split
      · rename_i e; rw [e]; exact .inl rfl
      · exact ih i
theorem FrameIs.mem {F:Nat→A}:∀ {l:List (Nat×A)},FrameIs F l→∀ p ∈ l,F p.1=p.2
  | (s,x)::l,h,p,hp=>by
    rcases List.mem_cons.1 hp with rfl | hp
    · exact h.1
    · exact h.2.mem p hp
theorem zCA {ops:Array Oper} {F:Nat→A} {o:Oper} {yes no:Prop}:yT N F (short ops o) yes no=uY F N ops o yes no:=by
  unfold yT short uY
  simp only
  cases hg:o.guard with
  | none=>rfl
  | some p =>
    obtain ⟨j,want⟩:=p
    simp only [Option.map_some]
    cases hj:ops[j]? with
    | none=>rfl
    | some q =>
      simp only [Option.bind_some]
      cases hd:q.dst with
      | none=>rfl
      | some d =>
        simp only
        split
        · generalize F d = z
          cases z with
          | d x =>
            cases x with
            | bool b=>cases want <;> cases b <;> simp
            | _=>rfl
          | tup l=>cases l <;> rfl
          | _=>rfl
        · rfl
theorem zET {ops:Array Oper}:∀ (l:List Oper) {F:Nat→A} {H:Heap} {K:(Nat→A)→Heap→Prop} {KP:Value→Heap→Prop},sops P V N (l.map (short ops)) F H K KP=aops P V N ops l F H K KP
  | [],F,H,K,KP=>rfl
  | o::l,F,H,K,KP=>by
    simp only [List.map_cons,sops,aops,zCA]
    have h1:(short ops o).dst=o.dst:=rfl
    have h2:(short ops o).op=o.op:=rfl
    rw [h1,h2]
    unfold aop
    congr 1
    · congr 1
      funext x H'
      exact zET l
    · exact zET l
theorem zHn {ops:Array Oper} {F:Nat→A} {H:Heap}:∀ (l:List Nat),(∀ j ∈ l,j < ops.size)→yX P V N F H (zJd ops l)=zDW P V N ops F H l
  | [],_=>rfl
  | j::l,hl=>by
    have hj:=hl j (.head _)
    have e:ops[j]?=some ops[j]:=Array.getElem?_eq_getElem hj
    simp only [zJd,e,yX,zDW]
    have h1:(short ops ops[j]).dst=ops[j].dst:=rfl
    have h2:(short ops ops[j]).op=ops[j].op:=rfl
    rw [h1,h2,zHn l (fun k hk=>hl k (.tail _ hk))]
    congr 1
    cases ops[j].dst with
    | none=>rfl
    | some d=>simp only [zCA]; rfl
def Plan.inB (n:Nat):Plan→Bool
  | .done=>true
  | .fl _ rest=>rest.inB n
  | .eff _ chk rest=>chk.all (fun j=>decide (j < n)) && rest.inB n
  | .both p q=>p.inB n && q.inB n
theorem zBz {ops:Array Oper}:∀ (p:Plan),p.inB ops.size=true→∀ {F:Nat→A} {H:Heap} {K:(Nat→A)→Heap→Prop} {KP:Value→Heap→Prop},xQ P V N (p.short ops) F H K KP=dops P V N ops p F H K KP
  | .done,_,_,_,_,_=>rfl
  | .fl i rest,hb,F,H,K,KP=>by
    simp only [Plan.inB] at hb
    simp only [Plan.short,dops]
    cases e:ops[i]? with
    | none=>rfl
    | some o =>
      have h1:(Aug.short ops o).dst=o.dst:=rfl
      have h2:(Aug.short ops o).op=o.op:=rfl
      simp only [xQ,zCA,h1,h2,zBz rest hb]
      rfl
  | .eff i chk rest,hb,F,H,K,KP=>by
    simp only [Plan.inB,Bool.and_eq_true,List.all_eq_true,decide_eq_true_eq] at hb
    simp only [Plan.short,dops]
    cases e:ops[i]? with
    | none=>rfl
    | some o =>
      have h1:(Aug.short ops o).dst=o.dst:=rfl
      have h2:(Aug.short ops o).op=o.op:=rfl
      simp only [xQ,zCA,h1,h2,zBz rest hb.2,zHn chk hb.1]
      rfl
  | .both p q,hb,F,H,K,KP=>by
    simp only [Plan.inB,Bool.and_eq_true] at hb
    simp only [Plan.short,xQ,dops,zBz p hb.1,zBz q hb.2]
def kM:Code→Bool
  | .seq x y=>kM x && kM y
  | .cond _ x y=>kM x && kM y
  | .block _ c=>kM c
  | .loop c=>kM c
  | .rangeFunc .. => false
  | _=>true
def qI (P:Program) (plans:Nat→Plan):Code→Bool
  | .seq x y=>qI P plans x && qI P plans y
  | .region id ops true=>jO P ops [] (plans id) && cov ops [] (plans id) && (plans id).inB ops.size
  | .cond _ x y=>qI P plans x && qI P plans y
  | .block _ c=>qI P plans c
  | .loop c=>qI P plans c
  | .rangeFunc _ _ x y=>(qI P plans x && qI P plans y) && (kM x && kM y)
  | _=>true
theorem qM {plans:Nat→Plan} {keeps:Nat→Option (List Nat)} (hm:P.follows .mixedOrders=true):∀ (c:Code),qI P plans c=true→∀ {ro:Option Nat},(ro=none∨kM c=true)→∀ {Q:Post} {F:Nat→A} {H:Heap},svc P V N (toS plans keeps c) Q F H→AWp ro P V N c Q F H:=by
  intro c
  induction c with
  | skip=>intro _ ro _ Q F H h; exact .skip h
  | seq x y ihx ihy =>
    intro hp ro hn Q F H h
    simp only [qI,Bool.and_eq_true] at hp
    simp only [kM,Bool.and_eq_true] at hn
    refine .seq ((ihx hp.1 (hn.imp id (·.1)) h).mono ?_)
    intro e F H q
    cases e with
    | normal=>exact ihy hp.2 (hn.imp id (·.2)) q
    | _=>exact q
  | region id ops b =>
    intro hp ro hn Q F H h
    cases b with
    | false =>
      refine AWp.le (AWp.region ?_) (zDA F (keeps id)) (.refl H)
      simp only [toS,svc,zET,List.map_map] at h
      exact h
    | true =>
      simp only [qI,Bool.and_eq_true] at hp
      refine AWp.le (AWp.region_draw (plans id) hm hp.1.1 hp.1.2 ?_) (zDA F (keeps id)) (.refl H)
      simp only [toS,svc,zBz _ hp.2] at h
      exact h
  | cond c x y ihx ihy =>
    intro hp ro hn Q F H h
    simp only [qI,Bool.and_eq_true] at hp
    simp only [kM,Bool.and_eq_true] at hn
    simp only [toS,svc] at h
    split at h
    · rename_i b hb
      refine .cond b hb ?_
      cases b with
      | true=>exact ihx hp.1 (hn.imp id (·.1)) (by simpa using h)
      | false=>exact ihy hp.2 (hn.imp id (·.2)) (by simpa using h)
    · exact h.elim
  | block id c ih =>
    intro hp ro hn Q F H h
    exact .block (ih hp hn h)
  | exit id=>intro _ ro _ Q F H h; exact .exit h
  | ret=>intro _ ro _ Q F H h; exact .ret h
  | loop c ih =>
    intro hp ro hn Q F H h
    simp only [toS,svc] at h
    refine AWp.turn (h.mono ?_)
    rintro F H ⟨X,l,J,m,x0,H0,h0,hF,hH,round⟩
    refine .loop l J m x0 H0 h0 hF.mem hH ?_
    intro x H1 hJ
    refine (ih hp hn (round x H1 hJ)).mono_turn ?_
    intro e F2 H2 q
    cases e with
    | normal =>
      refine turn.mono q ?_
      rintro F' H' ⟨x',H'',a,b,c,d⟩
      exact ⟨x',H'',a,b,c.mem,d⟩
    | _=>exact turn.refl q
  | rangeFunc g ps x y ihx ihy =>
    intro hp ro hn Q F H h
    simp only [qI,Bool.and_eq_true] at hp
    obtain rfl:ro=none:=hn.resolve_right (by simp [kM])
    simp only [toS,svc] at h
    refine AWp.turn (h.mono ?_)
    rintro F H ⟨gf,caps,xs,J,JX,l,H0,hg,hcb,hit,hps,h0,hF,hH,hround,hd,hx⟩
    refine AWp.le (AWp.range hg hcb hit (fun x hx=>by simpa using hps x hx) h0 (fun i z G hz hJ lo=>?_) hd hx) (zAy _ hF.mem) hH
    refine (ihx hp.1.1 (.inr hp.2.1) (hround i z G hz hJ)).mono ?_
    intro e F1 G1 q
    cases e with
    | normal=>exact ihy hp.1.2 (.inr hp.2.2) q
    | _=>exact q
  | _=>intro _ ro _ Q F H h; exact h.elim
def sret (P:Program) (V:Env) (N:Nat) (rs:List ResultVar) (K:A→Heap→Prop):Post
  | .normal,F,H | .ret,F,H=>match vJ P V N F H rs with
    | some r=>retW V (jL r) H K
    | none=>False
  | _,_,_=>False
def zJ8 (P:Program) (V:Env) (N:Nat) (rs:List ResultVar) (K:A→Heap→Prop) (KP:Value→Heap→Prop):Post
  | .normal,F,H | .ret,F,H=>match vJ P V N F H rs with
    | some r=>retW V (jL r) H K
    | none=>False
  | .panic [{ v,recovered:=false,goexit:=false }],_,H=>panW V H (KP v)
  | _,_,_=>False
def FnIs (P:Program) (f:FuncId) (N:Nat) (rs:List ResultVar) (s:SCode):Prop :=
  ∃ (fn:Func) (plans:Nat→Plan) (keeps:Nat→Option (List Nat)) (c:Code),P.funcs[f]?=some fn∧fn.ntmps=N∧fn.results.toList=rs∧fn.body=some c∧qI P plans c=true∧toS plans keeps c=s
theorem FnIs.mk' {f:FuncId} {rs:List ResultVar} {s:SCode} (plans:Nat→Plan) (keeps:Nat→Option (List Nat))
    (h:(P.funcs[f]?).map (fun fn=>(fn.ntmps,fn.results.toList,fn.body.map fun c=>(qI P plans c,toS plans keeps c)))=some (N,rs,some (true,s))):FnIs P f N rs s:=by
  cases hf:P.funcs[f]? with
  | none=>rw [hf] at h; cases h
  | some fn =>
    rw [hf] at h
    simp only [Option.map_some,Option.some.injEq,Prod.mk.injEq] at h
    obtain ⟨h1,h2,h3⟩:=h
    cases hb:fn.body with
    | none=>rw [hb] at h3; cases h3
    | some c =>
      rw [hb] at h3
      simp only [Option.map_some,Option.some.injEq,Prod.mk.injEq] at h3
      exact ⟨fn,plans,keeps,c,hf,h1,h2,hb,h3.1,h3.2⟩
theorem ACall.by {f:FuncId} {rs:List ResultVar} {s:SCode} {args:List A} {H:Heap} {K:A→Heap→Prop} (hm:P.follows .mixedOrders=true) (hf:FnIs P f N rs s) (hn:args.length≤N)
    (h:svc P V N s (sret P V N rs K) (zBI args) H):ACall P V f args H K:=by
  obtain ⟨fn,plans,keeps,c,h1,rfl,rfl,h4,h5,rfl⟩:=hf
  refine ACall.of h1 h4 hn ((qM hm c h5 (.inl rfl) h).mono ?_)
  intro e F H q
  cases e with
  | normal=>exact q
  | ret=>exact q
  | _=>exact q.elim
theorem ACallP.by {f:FuncId} {rs:List ResultVar} {s:SCode} {args:List A} {H:Heap} {K:A→Heap→Prop} {KP:Value→Heap→Prop} (hm:P.follows .mixedOrders=true) (hf:FnIs P f N rs s) (hn:args.length≤N)
    (h:svc P V N s (zJ8 P V N rs K KP) (zBI args) H):ACallP P V f args H K KP:=by
  obtain ⟨fn,plans,keeps,c,h1,rfl,rfl,h4,h5,rfl⟩:=hf
  refine ACallP.of h1 h4 hn ((qM hm c h5 (.inl rfl) h).mono ?_)
  intro e F H q
  cases e with
  | normal=>exact q
  | ret=>exact q
  | panic ch =>
    match ch,q with
    | [{ v,recovered:=false,goexit:=false }],q=>exact q
  | _=>exact q.elim
end
end Go.Aug
