/- The contracts of the printers; conditions stand in each contract. -/
import Derived.Test.YthldjffimcngaaaGreatDoorPrinterOne
import Derived.Test.YthldjffimcngaaaGreatDoorFormsOne
import Derived.Deep.LoopGhost
import Derived.Sort.LoopGhostIn
import Derived.Test.YthldjffimcngaaaGreatDoorReaderFour
set_option linter.all false
set_option linter.unusedVariables false
set_option linter.unusedSimpArgs false
set_option linter.unusedSectionVars false

/- The printers' contracts, of the reader's things. -/
namespace Go.Aug
open Go.Proofs
set_option maxRecDepth 100000
set_option linter.unusedSimpArgs false
set_option linter.unusedVariables false
mutual
def Tm.p:Tm→Prn.Tm
 | .mk k n i xs=>.mk k n.data.toList i (Tm.ps xs)
def Tm.ps:List Tm→List Prn.Tm
 | []=>[]
 | t::l=>t.p::Tm.ps l
end
mutual
def Ty.p:Ty→Prn.Ty
 | .mk v n xs=>.mk v n.data.toList (Ty.ps xs)
def Ty.ps:List Ty→List Prn.Ty
 | []=>[]
 | t::l=>t.p::Ty.ps l
end
mutual
def Gl.p:Gl→Prn.Gl
 | .mk k a b n xs gs=>.mk k a.p b.p n.data.toList (Tm.ps xs) (Gl.ps gs)
def Gl.ps:List Gl→List Prn.Gl
 | []=>[]
 | t::l=>t.p::Gl.ps l
end
def Ct.p (c:Ct):Prn.Ct:=⟨c.name.data.toList,Ty.ps c.args⟩
def It.p (i:It):Prn.It:=⟨i.kind,i.name.data.toList,i.vars.map (·.data.toList),i.ctors.map Ct.p,Ty.ps i.types,i.ways,i.det,Tm.ps i.args,i.body.p⟩
theorem zFg (n:ByteArray):Prn.S n.data.toList=.str n:=by simp [Prn.S]
mutual
theorem Tm.p_cs:∀ t:Tm,t.p.cs=t.cs
 | .mk k n i xs=>by rw [Tm.p,Prn.Tm.cs,Tm.cs,Tm.ps_ds xs,zFg]
theorem Tm.ps_ds:∀ l:List Tm,Prn.Tm.ds (Tm.ps l)=Tm.ds l
 | []=>rfl
 | t::l=>by rw [Tm.ps,Prn.Tm.ds,Tm.ds,Tm.p_cs t,Tm.ps_ds l]
end
mutual
theorem Ty.p_cs:∀ t:Ty,t.p.cs=t.cs
 | .mk v n xs=>by rw [Ty.p,Prn.Ty.cs,Ty.cs,Ty.ps_ds xs,zFg]
theorem Ty.ps_ds:∀ l:List Ty,Prn.Ty.ds (Ty.ps l)=Ty.ds l
 | []=>rfl
 | t::l=>by rw [Ty.ps,Prn.Ty.ds,Ty.ds,Ty.p_cs t,Ty.ps_ds l]
end
mutual
theorem Gl.p_cs:∀ t:Gl,t.p.cs=t.cs
 | .mk k a b n xs gs=>by rw [Gl.p,Prn.Gl.cs,Gl.cs,Tm.p_cs a,Tm.p_cs b,Tm.ps_ds xs,Gl.ps_ds gs,zFg,Tm.ds_map]
theorem Gl.ps_ds:∀ l:List Gl,Prn.Gl.ds (Gl.ps l)=Gl.ds l
 | []=>rfl
 | t::l=>by rw [Gl.ps,Prn.Gl.ds,Gl.ds,Gl.p_cs t,Gl.ps_ds l]
end
theorem Ct.p_d (c:Ct):c.p.d=c.d:=by rw [Prn.Ct.d,Prn.Ct.cs,Ct.d,Ct.cs,Ct.p,Ty.ps_ds,zFg,Ty.ds_map]
theorem It.p_cs (i:It):i.p.cs=i.cs:=by
 have e1:(i.vars.map (·.data.toList)).map Prn.S=i.vars.map .str:=by rw [List.map_map]; exact List.map_congr_left fun v _=>zFg v
 have e2:(i.ctors.map Ct.p).map Prn.Ct.d=i.ctors.map Ct.d:=by rw [List.map_map]; exact List.map_congr_left fun c _=>Ct.p_d c
 simp only [Prn.It.cs,It.cs,It.p,e1,e2,Ty.ps_ds,Tm.ps_ds,Gl.p_cs,zFg,Ty.ds_map,Tm.ds_map,List.cons_append,List.nil_append]
theorem zHl (ws:List (List UInt8)):Prn.rowT ws=rowT ws:=by cases ws <;> rfl
mutual
theorem Tm.p_t:∀ t:Tm,t.p.t=t.t
 | .mk k n i xs=>by rw [Tm.p,Prn.Tm.t,Tm.t,Tm.ps_ts xs,zHl]
theorem Tm.ps_ts:∀ l:List Tm,Prn.Tm.ts (Tm.ps l)=Tm.ts l
 | []=>rfl
 | t::l=>by rw [Tm.ps,Prn.Tm.ts,Tm.ts,Tm.p_t t,Tm.ps_ts l]
end
mutual
theorem Ty.p_t:∀ t:Ty,t.p.t=t.t
 | .mk v n xs=>by rw [Ty.p,Prn.Ty.t,Ty.t,Ty.ps_ts xs,zHl]
theorem Ty.ps_ts:∀ l:List Ty,Prn.Ty.ts (Ty.ps l)=Ty.ts l
 | []=>rfl
 | t::l=>by rw [Ty.ps,Prn.Ty.ts,Ty.ts,Ty.p_t t,Ty.ps_ts l]
end
theorem Gl.p_kind (g:Gl):g.p.kind=g.kind:=by cases g; rfl
theorem zQa (a b:Int):Prn.loose a b=loose a b:=rfl
theorem zXc (b:Bool) (s:List UInt8):Prn.brT b s=brT b s:=rfl
mutual
theorem Gl.p_t:∀ t:Gl,t.p.t=t.t
 | .mk k a b n xs gs=>by rw [Gl.p,Prn.Gl.t,Gl.t,Tm.p_t a,Tm.p_t b,Tm.ps_ts xs,Gl.ps_ws gs k,zHl]
theorem Gl.ps_ws:∀ (l:List Gl) (k:Int),Prn.Gl.ws k (Gl.ps l)=Gl.ws k l
 | [],_=>rfl
 | t::l,k=>by rw [Gl.ps,Prn.Gl.ws,Gl.ws,Gl.p_t t,Gl.ps_ws l k,Gl.p_kind,zQa,zXc]
end
theorem Ct.p_t (c:Ct):c.p.t=c.t:=by rw [Prn.Ct.t,Ct.t,Ct.p,Ty.ps_ts,zHl]
theorem zMP (l:List Ct):Prn.ctorsT (l.map Ct.p)=ctorsT l:=by
 have e:(l.map Ct.p).map Prn.Ct.t=l.map Ct.t:=by rw [List.map_map]; exact List.map_congr_left fun c _=>Ct.p_t c
 rw [Prn.ctorsT,ctorsT,e]
theorem It.p_t (i:It):i.p.t=i.t:=by
 have e3:i.ways.map Prn.wayT=i.ways.map wayT:=rfl
 have e4:Prn.detT i.det=detT i.det:=rfl
 simp only [Prn.It.t,It.t,Prn.It.t0,It.t0,It.p,zMP,Ty.ps_ts,Tm.ps_ts,Gl.p_t,Gl.p_kind,zHl,e3,e4]
theorem inR (n:Int) (h:InI n):Prn.InR n:=h
theorem wX {n:Int} (h0:0≤n) (h1:n≤100):Prn.InR n:=⟨by omega,by omega⟩
mutual
theorem Tm.p_ok:∀ (t:Tm) (d:Nat),t.good d→t.p.ok
 | .mk k n i xs,d,⟨_,h⟩=>by
  rw [Tm.p,Prn.Tm.ok]
  rcases h with ⟨rfl,_,rfl,rfl⟩ | ⟨rfl,_,h,rfl⟩ | ⟨rfl,rfl,_,_,_,h⟩
  ·exact ⟨wX (by decide) (by decide),wX (by decide) (by decide),trivial⟩
  ·exact ⟨wX (by decide) (by decide),inR _ (zVh h),trivial⟩
  ·exact ⟨wX (by decide) (by decide),wX (by decide) (by decide),Tm.ps_ok xs (d+1) h⟩
theorem Tm.ps_ok:∀ (l:List Tm) (d:Nat),Tm.goods d l→Prn.Tm.oks (Tm.ps l)
 | [],_,_=>trivial
 | t::l,d,⟨h1,h2⟩=>⟨Tm.p_ok t d h1,Tm.ps_ok l d h2⟩
end
theorem Tm.none_ok:Tm.none.p.ok:=⟨wX (by decide) (by decide),wX (by decide) (by decide),trivial⟩
mutual
theorem Gl.p_ok:∀ (g:Gl) (d:Nat),g.good d→g.p.ok
 | .mk k a b n xs gs,d,h=>by
  rw [Gl.p,Prn.Gl.ok]
  rcases h with ⟨rfl,_,rfl,rfl,rfl,rfl,rfl⟩ | ⟨rfl,_,rfl,rfl,rfl,rfl,rfl⟩ | ⟨rfl,_,ha,hb,rfl,rfl,rfl⟩ | ⟨rfl,_,rfl,rfl,hc,rfl⟩ | ⟨hk,rfl,rfl,rfl,rfl,_,hg⟩ | ⟨rfl,_,rfl,rfl,rfl,rfl,_,hg⟩ | ⟨rfl,_,ha,rfl,rfl,rfl,rfl⟩ | ⟨rfl,_,rfl,rfl,hn,rfl,_,hg⟩
  ·exact ⟨wX (by decide) (by decide),Tm.none_ok,Tm.none_ok,trivial,trivial⟩
  ·exact ⟨wX (by decide) (by decide),Tm.none_ok,Tm.none_ok,trivial,trivial⟩
  ·exact ⟨wX (by decide) (by decide),Tm.p_ok a _ ha,Tm.p_ok b _ hb,trivial,trivial⟩
  ·have:=Tm.p_ok _ _ hc
   rw [Tm.p,Prn.Tm.ok] at this
   exact ⟨wX (by decide) (by decide),Tm.none_ok,Tm.none_ok,this.2.2,trivial⟩
  ·exact ⟨by rcases hk with rfl | rfl <;> exact wX (by decide) (by decide),Tm.none_ok,Tm.none_ok,trivial,Gl.ps_ok gs k d hg⟩
  ·exact ⟨wX (by decide) (by decide),Tm.none_ok,Tm.none_ok,trivial,Gl.ps_ok gs 7 (d+1) hg⟩
  ·exact ⟨wX (by decide) (by decide),Tm.p_ok a _ ha,Tm.none_ok,trivial,trivial⟩
  ·exact ⟨wX (by decide) (by decide),Tm.none_ok,Tm.none_ok,trivial,Gl.ps_ok gs 9 (d+1) hg⟩
theorem Gl.ps_ok:∀ (l:List Gl) (k:Int) (d:Nat),Gl.goods k d l→Prn.Gl.oks (Gl.ps l)
 | [],_,_,_=>trivial
 | t::l,k,d,⟨h1,h2⟩=>by
  refine ⟨?_,Gl.ps_ok l k d h2⟩
  split at h1
  ·exact Gl.p_ok t (d+1) h1.2
  ·exact Gl.p_ok t d h1
end
theorem zIr:(Gl.mk 0 .none .none ⟨#[]⟩ [] []).p.ok:=⟨wX (by decide) (by decide),Tm.none_ok,Tm.none_ok,trivial,trivial⟩
theorem It.p_ok {i:It} (h:i.Good):i.p.ok:=by
 cases h with
 | type=>exact ⟨trivial,zIr⟩
 | pred=>exact ⟨trivial,zIr⟩
 | mode=>exact ⟨trivial,zIr⟩
 | clause hn h8 ht hg=>exact ⟨Tm.ps_ok _ _ ht,Gl.p_ok _ _ hg⟩
variable {eb:EbG} [TabM eb] {H:Heap} {K:A→Heap→Prop}
theorem zJK (i:It) (h:i.Good) (hs:D.sizes i.cs≤4194304) (hK:K (.d (.str (xS i.t))) H):ACall Tryz.prog (zK eb) 14 [.d i.d] H K:=by
 have:=Prn.item_ok (eb:=eb) i.p (It.p_ok h) (by rw [It.p_cs]; exact hs) H K (by rw [It.p_t]; exact hK)
 rwa [Prn.It.d,It.p_cs] at this
theorem zOw (i:It) (h:i.Good) (hs:D.sizes i.cs≤4194304) (hK:K (.d (.str (xS i.t))) H):ACall Tryz.prog (zK eb) 35 [.d i.d] H K:=by
 have:=Prn.ritem_ok (eb:=eb) i.p (It.p_ok h) (by rw [It.p_cs]; exact hs) H K (by rw [It.p_t]; exact hK)
 rwa [Prn.It.d,It.p_cs] at this
end Go.Aug

/- print.Source of items: the library's Builder stands beside what the layer knows (printed by PvR.py). -/
namespace Go.Aug
open Go.Proofs Go.RowKit
set_option maxRecDepth 100000
set_option linter.unusedSimpArgs false
set_option linter.unusedVariables false
theorem jQ {B B':Nat} {w w':World} (h:Below B w w') (hB:B'≤B):Below B' w w' :=
 ⟨h.os,h.tape,h.output,h.size,fun k hk=>h.block k (Nat.lt_of_lt_of_le hk hB)⟩
theorem Ext.below0 {Z Z':Nat→Prop} {H':Heap} {w w':World} (x:Ext Z (fun _=>none) w Z' H' w'):Below w.heap.size w w' :=
 ⟨x.os,x.tape,x.output,x.size,fun k hk=>x.block k hk (fun ⟨_,h,_⟩=>by cases h)⟩
theorem BuilderAt.below {T e:TypeId} {B b:Nat} {p:Value} {bs:List Value} {w w':World} (h:Lib.BuilderAt T e B b p bs w) (hb:Below w.heap.size w w'):Lib.BuilderAt T e B b p bs w':=by
 obtain ⟨h1,v,h2,h3,h4⟩:=h
 refine ⟨h1,v,by rw [hb.block b (Array.getElem?_eq_some_iff.1 h2).1]; exact h2,h3.kept (row:=none) ⟨hb.os,hb.tape,hb.output,hb.size,fun k hk _=>hb.block k hk⟩ ?_,h4⟩
 cases hv:v.ownBlock with
 | none=>exact .inl rfl
 | some x=>exact .inr (by simp)
theorem IsBuilder.below {T e:TypeId} {B b:Nat} {bs:List Value} {w w':World} (h:Lib.IsBuilder T e B b bs w) (hb:Below w.heap.size w w'):Lib.IsBuilder T e B b bs w' :=
 h.imp (fun h=>BuilderAt.below h hb) (fun h=>BuilderAt.below h hb)
theorem zGw (B b:Nat) (bs:List Value) (s:ByteArray) (w:World) (h:Lib.IsBuilder 79 5 B b bs w) (hlen:bs.length+s.size≤140737488355328) (hBw:B≤w.heap.size) :
  Calls Tryz.prog 32 #[.pointer (some ⟨b,0,none⟩),.string s] w fun e w'=>e=.returned (.tuple #[.int .i64 s.size,.nilIface])∧(Lib.BuilderAt 79 5 B b (.pointer (some ⟨b,0,none⟩)) (bs++Lib.strCells s) w'∧Below B w w') :=
 Any.Builder_WriteString { Tryz.lays156 with } Tryz.Builder_Extra_156 B b bs s w h hlen hBw
theorem zJ5 (w:World):(Instr.alloc 79 true (.tuple #[])).run Tryz.prog w=.ok (.pointer (some ⟨w.heap.size,0,none⟩)) (w.alloc (.cells #[.pointer none,.slice none 0 0] 79)):=by
 simp [Instr.alloc,Tryz.zeroValue79,newVar,newRow,Value.cells]
theorem zOZ {f:FuncId} {fn:Func} (hf:Tryz.prog.funcs[f]?=some fn) (hn:(fn.name == "runtime.NumGoroutine")=false) (hb:fn.body.isSome=true) (cv:Array Value) (w:World):(callFunc f cv).run Tryz.prog w=.ok (.enter f cv) w:=by
 have h1:fn.name ≠ "runtime.NumGoroutine" := by simpa using hn
 obtain ⟨c,hc⟩:=Option.isSome_iff_exists.1 hb
 simp [callFunc,hf,h1,hc]
theorem zPR (cv:Array Value) (w:World):(callFunc 32 cv).run Tryz.prog w=.ok (.enter 32 cv) w:=zOZ Tryz.func32 (by kernel_rfl) (by kernel_rfl) cv w
theorem zPQ (cv:Array Value) (w:World):(callFunc 33 cv).run Tryz.prog w=.ok (.enter 33 cv) w:=zOZ Tryz.func33 (by kernel_rfl) (by kernel_rfl) cv w
section
variable {P:Program} {V:Env} {N:Nat} {ds:Df} {F:Nat→A} {Z:Nat→Prop} {H:Heap} {a:Act} {w:World}
theorem xY {k:Nat} {d:Option Tmp} (h:d≠some k) (v:Value):(a.put d v).tmps.getD k undef=a.tmps.getD k undef:=by
 cases d with
 | none=>rfl
 | some d =>
  have hd:d≠k:=fun e=>h (by rw [e])
  simp only [Act.put,Array.getD_eq_getD_getElem?]
  rw [Array.getElem?_setIfInBounds_ne hd]
theorem vX (d:Option Tmp) (v:Value):(a.put d v).tmps.size=a.tmps.size:=by
 cases d with
 | none=>rfl
 | some d=>simp [Act.put]
theorem zBF {k:Nat} (hk:k < a.tmps.size) (v:Value):(a.put (some k) v).tmps.getD k undef=v:=by
 simp [Act.put,Array.getD_eq_getD_getElem?,hk]
theorem kN (d:Option Tmp) (v:Value):(a.put d v).defers=a.defers:=by cases d <;> rfl
theorem opS {ops:Array Oper} {i:Nat} {rest:List Nat} {o:Oper} {K:A→Heap→Prop} {Q:Exit→Act→World→Prop} (ho:ops[i]?=some o) (hg:o.guard=none) (st:St V N ds Z F H a w) (h:aop P V N o F H K (fun _ _=>False))
  (next:∀ x v Z' H' w',St V N ds Z' (putF F o.dst x) H' (a.put o.dst v) w'→RepA V w' Z' v x→Ext Z H w Z' H' w'→K x H'→wpOpsIn (wQ none) 0 P ops Q rest (a.put o.dst v) w'):wpOpsIn (wQ none) 0 P ops Q (i::rest) a w:=by
 have hw:∀ y,Region.wanted o y=true:=fun y=>by unfold Region.wanted; rw [hg]
 simp only [wpOpsIn,ho,hw,if_true]
 refine zDY st h ?_ ?_
 ·intro x v Z' H' w' r m' x' hK
  exact next x v Z' H' w' (st.put (st.mem.keeps x') m' r) r x' hK
 ·intro v Z' H' w' _ _ q
  exact q.elim
theorem opV {ops:Array Oper} {i:Nat} {rest:List Nat} {o:Oper} {m':Sem Value} {u:Value} {w':World} {Q:Exit→Act→World→Prop} (ho:ops[i]?=some o) (hg:o.guard=none) (hnd:∀ c,o.op≠.defer c) (he:execOp a.eval o=(do pure (.value (←m')):Sem Next)) (hr:m'.run P w=.ok u w')
  (next:wpOpsIn (wQ none) 0 P ops Q rest (a.put o.dst u) w'):wpOpsIn (wQ none) 0 P ops Q (i::rest) a w:=by
 have hw:∀ y,Region.wanted o y=true:=fun y=>by unfold Region.wanted; rw [hg]
 simp only [wpOpsIn,ho,hw,if_true]
 exact jZ hnd he hr next
theorem opC {ops:Array Oper} {i:Nat} {rest:List Nat} {o:Oper} {c:Call} {f:FuncId} {vs:Array Value} {R:Ending→World→Prop} {Q:Exit→Act→World→Prop} (ho:ops[i]?=some o) (hg:o.guard=none) (hop:o.op=.call c) (hc:c.callee=.value (.func f)) (ha:c.args.map a.eval=vs)
  (he:∀ args w,(callFunc f args).run P w=.ok (.enter f args) w) (h:Calls P f vs w R) (hR:∀ e w',R e w'→∃ v,e=.returned v∧wpOpsIn (wQ none) 0 P ops Q rest (a.put o.dst v) w'):wpOpsIn (wQ none) 0 P ops Q (i::rest) a w:=by
 have hw:∀ y,Region.wanted o y=true:=fun y=>by unfold Region.wanted; rw [hg]
 simp only [wpOpsIn,ho,hw,if_true]
 have ef:a.eval (.func f)=.func (.func f) #[] #[]:=rfl
 have hnd:∀ c,o.op≠.defer c:=fun c' e=>by rw [hop] at e; cases e
 have hx:(execOp a.eval o).run P w=.ok (.enter f vs) w:=by
  unfold execOp
  rw [hop]
  simp [resolve,hc,ef,Deferred.ofValue,invoke,ha,he]
 refine ⟨fun _ _=>trivial, ?_⟩
 rw [Oper.semAt_eq _ _ _ hnd,hx,Oper.uponIn_enter]
 refine ⟨kI _ _,callsIn_roundF.2 (h.mono ?_)⟩
 intro e w' hr
 obtain ⟨v,rfl,hn⟩:=hR e w' hr
 exact hn
end
abbrev H0:Heap:=fun _=>none
section
attribute [local irreducible] hid andK letA zR wN xX yH xR xE wR idxA ldV ldD addO xD appTo wF slA srcK nilQ retW gif sgd yT svc sops xQ yX aopO xT yU aBin aUn wK aLen zL yW zI yG xC yF yZ zJ zM yV zX yE xG xU frzM putE newK newV wP ACall xH wD zW sret cnd szs nilC yK zQ yA
variable {eb:EbG}
theorem zSz (b:Nat) (l:List D):aopO Tryz.prog (zK eb) 17 (.call { callee:=.builtin .len,args:=#[.tmp 6],argTypes:=#[23] }) (mkF [(3,.ref b 0),(6,.d (.slice l))]) H0 (fun x H=>x=.d (.int .i64 l.length)∧H=H0) (fun _ _=>False):=by
 have:aopO Tryz.prog (zK eb) 17 (.call { callee:=.builtin .len,args:=#[.tmp 6],argTypes:=#[23] }) (mkF [(3,.ref b 0),(6,.d (.slice l))]) H0 (hid (fun x H=>x=.d (.int .i64 l.length)∧H=H0) ⟨⟩) (hid (fun _ _=>False) ⟨⟩):=by
  simp -dsimp only [go_sem,gS]
 unfold hid at this
 exact this
theorem zSA (b j n:Nat) (l:List D):aopO Tryz.prog (zK eb) 17 (.binOp .lss 3 (.tmp 8) (.tmp 7) 3) (mkF [(3,.ref b 0),(6,.d (.slice l)),(7,.d (.int .i64 n)),(8,.d (.int .i64 j))]) H0 (fun x H=>x=.d (.bool (decide ((j:Int) < n)))∧H=H0) (fun _ _=>False):=by
 have:aopO Tryz.prog (zK eb) 17 (.binOp .lss 3 (.tmp 8) (.tmp 7) 3) (mkF [(3,.ref b 0),(6,.d (.slice l)),(7,.d (.int .i64 n)),(8,.d (.int .i64 j))]) H0 (hid (fun x H=>x=.d (.bool (decide ((j:Int) < n)))∧H=H0) ⟨⟩) (hid (fun _ _=>False) ⟨⟩):=by
  simp -dsimp only [go_sem,gS]
 unfold hid at this
 exact this
theorem zSy (b j n:Nat) (l:List D) (cs:List D) (hx:l[j]?=some (.agg cs)) (hc:cs.length=20):aopO Tryz.prog (zK eb) 17 (.indexAddr 23 (.tmp 6) (.tmp 8)) (mkF [(3,.ref b 0),(6,.d (.slice l)),(7,.d (.int .i64 n)),(8,.d (.int .i64 j))]) H0 (fun x H=>x=.imm cs∧H=H0) (fun _ _=>False):=by
 have hj:j < l.length:=(List.getElem?_eq_some_iff.1 hx).1
 have:aopO Tryz.prog (zK eb) 17 (.indexAddr 23 (.tmp 6) (.tmp 8)) (mkF [(3,.ref b 0),(6,.d (.slice l)),(7,.d (.int .i64 n)),(8,.d (.int .i64 j))]) H0 (hid (fun x H=>x=.imm cs∧H=H0) ⟨⟩) (hid (fun _ _=>False) ⟨⟩):=by
  simp -dsimp only [go_sem,gS,hx,hc,hj]
 unfold hid at this
 exact this
def zKb:List A:=[.d (.int .i64 0),.d (.str ⟨#[]⟩),.nils,.nils,.nils,.nils,.d (.int .i64 0),.nils,.d (.int .i64 0),.d (.int .i64 0),.d (.str ⟨#[]⟩),.d (.int .i64 0),.nils,.d (.int .i64 0),.d (.str ⟨#[]⟩),.d (.int .i64 0),.nils,.d (.str ⟨#[]⟩),.nils,.nils]
section
variable (y1 y2 y3 y4 y5 y6 y7 y8 y9 y10 y11 y12 y13 y14 y15 y16 y17 y18 y19 y20:D)
theorem zW8:aopO Tryz.prog (zK eb) 17 (.load 44 (.tmp 10)) (mkF [(10,.imm [y1,y2,y3,y4,y5,y6,y7,y8,y9,y10,y11,y12,y13,y14,y15,y16,y17,y18,y19,y20])]) H0 (fun x H=>x=.d (.agg [y1,y2,y3,y4,y5,y6,y7,y8,y9,y10,y11,y12,y13,y14,y15,y16,y17,y18,y19,y20])∧H=H0) (fun _ _=>False):=by
 have:aopO Tryz.prog (zK eb) 17 (.load 44 (.tmp 10)) (mkF [(10,.imm [y1,y2,y3,y4,y5,y6,y7,y8,y9,y10,y11,y12,y13,y14,y15,y16,y17,y18,y19,y20])]) H0 (hid (fun x H=>x=.d (.agg [y1,y2,y3,y4,y5,y6,y7,y8,y9,y10,y11,y12,y13,y14,y15,y16,y17,y18,y19,y20])∧H=H0) ⟨⟩) (hid (fun _ _=>False) ⟨⟩):=by
  simp -dsimp only [go_sem,gS]
 unfold hid at this
 exact this
theorem zMA:aopO Tryz.prog (zK eb) 17 (.alloc 44) (mkF [(11,.d (.agg [y1,y2,y3,y4,y5,y6,y7,y8,y9,y10,y11,y12,y13,y14,y15,y16,y17,y18,y19,y20]))]) H0 (fun x H=>∃ b,x=.ref b 0∧H=upd H0 b (.var zKb)) (fun _ _=>False):=by
 have:aopO Tryz.prog (zK eb) 17 (.alloc 44) (mkF [(11,.d (.agg [y1,y2,y3,y4,y5,y6,y7,y8,y9,y10,y11,y12,y13,y14,y15,y16,y17,y18,y19,y20]))]) H0 (hid (fun x H=>∃ b,x=.ref b 0∧H=upd H0 b (.var zKb)) ⟨⟩) (hid (fun _ _=>False) ⟨⟩):=by
  simp -dsimp only [go_sem,gS]
  refine yL (fun b hb hn hm=>?_)
  unfold hid
  exact ⟨b,rfl,rfl⟩
 unfold hid at this
 exact this
theorem zMB (b:Nat):aopO Tryz.prog (zK eb) 17 (.store 44 (.tmp 5) (.tmp 11)) (mkF [(5,.ref b 0),(11,.d (.agg [y1,y2,y3,y4,y5,y6,y7,y8,y9,y10,y11,y12,y13,y14,y15,y16,y17,y18,y19,y20]))]) (upd H0 b (.var zKb)) (fun _ H=>H=upd H0 b (.var [.d y1,.d y2,.d y3,.d y4,.d y5,.d y6,.d y7,.d y8,.d y9,.d y10,.d y11,.d y12,.d y13,.d y14,.d y15,.d y16,.d y17,.d y18,.d y19,.d y20])) (fun _ _=>False):=by
 have:aopO Tryz.prog (zK eb) 17 (.store 44 (.tmp 5) (.tmp 11)) (mkF [(5,.ref b 0),(11,.d (.agg [y1,y2,y3,y4,y5,y6,y7,y8,y9,y10,y11,y12,y13,y14,y15,y16,y17,y18,y19,y20]))]) (upd H0 b (.var zKb)) (hid (fun _ H=>H=upd H0 b (.var [.d y1,.d y2,.d y3,.d y4,.d y5,.d y6,.d y7,.d y8,.d y9,.d y10,.d y11,.d y12,.d y13,.d y14,.d y15,.d y16,.d y17,.d y18,.d y19,.d y20])) ⟨⟩) (hid (fun _ _=>False) ⟨⟩):=by
  unfold zKb
  simp -dsimp only [go_sem,gS]
  exact uF
 unfold hid at this
 exact this
theorem zPw (b:Nat):aopO Tryz.prog (zK eb) 17 (.load 44 (.tmp 5)) (mkF [(5,.ref b 0)]) (upd H0 b (.var [.d y1,.d y2,.d y3,.d y4,.d y5,.d y6,.d y7,.d y8,.d y9,.d y10,.d y11,.d y12,.d y13,.d y14,.d y15,.d y16,.d y17,.d y18,.d y19,.d y20])) (fun x _=>x=.d (.agg [y1,y2,y3,y4,y5,y6,y7,y8,y9,y10,y11,y12,y13,y14,y15,y16,y17,y18,y19,y20])) (fun _ _=>False):=by
 have:aopO Tryz.prog (zK eb) 17 (.load 44 (.tmp 5)) (mkF [(5,.ref b 0)]) (upd H0 b (.var [.d y1,.d y2,.d y3,.d y4,.d y5,.d y6,.d y7,.d y8,.d y9,.d y10,.d y11,.d y12,.d y13,.d y14,.d y15,.d y16,.d y17,.d y18,.d y19,.d y20])) (hid (fun x _=>x=.d (.agg [y1,y2,y3,y4,y5,y6,y7,y8,y9,y10,y11,y12,y13,y14,y15,y16,y17,y18,y19,y20])) ⟨⟩) (hid (fun _ _=>False) ⟨⟩):=by
  simp -dsimp only [go_sem,gS]
 unfold hid at this
 exact this
theorem zPv (s:ByteArray) (h:∀ (H:Heap) (K:A→Heap→Prop),K (.d (.str s)) H→ACall Tryz.prog (zK eb) 14 [.d (.agg [y1,y2,y3,y4,y5,y6,y7,y8,y9,y10,y11,y12,y13,y14,y15,y16,y17,y18,y19,y20])] H K):aopO Tryz.prog (zK eb) 17 (.call { callee:=.value (.func 14),args:=#[.tmp 12],argTypes:=#[44] }) (mkF [(12,.d (.agg [y1,y2,y3,y4,y5,y6,y7,y8,y9,y10,y11,y12,y13,y14,y15,y16,y17,y18,y19,y20]))]) H0 (fun x _=>x=.d (.str s)) (fun _ _=>False):=by
 have:aopO Tryz.prog (zK eb) 17 (.call { callee:=.value (.func 14),args:=#[.tmp 12],argTypes:=#[44] }) (mkF [(12,.d (.agg [y1,y2,y3,y4,y5,y6,y7,y8,y9,y10,y11,y12,y13,y14,y15,y16,y17,y18,y19,y20]))]) H0 (hid (fun x _=>x=.d (.str s)) ⟨⟩) (hid (fun _ _=>False) ⟨⟩):=by
  simp -dsimp only [go_sem,gS]
  refine h _ _ ?_
  unfold hid
  rfl
 unfold hid at this
 exact this
end
theorem zSx (j:Nat) (hj:j < 1099511627776):aopO Tryz.prog (zK eb) 17 (.binOp .add 3 (.tmp 8) (.const (.int .i64 1)) 3) (mkF [(8,.d (.int .i64 j))]) H0 (fun x H=>x=.d (.int .i64 ((j+1:Nat):Int))∧H=H0) (fun _ _=>False):=by
 have hw:=qT hj
 have:aopO Tryz.prog (zK eb) 17 (.binOp .add 3 (.tmp 8) (.const (.int .i64 1)) 3) (mkF [(8,.d (.int .i64 j))]) H0 (hid (fun x H=>x=.d (.int .i64 ((j+1:Nat):Int))∧H=H0) ⟨⟩) (hid (fun _ _=>False) ⟨⟩):=by
  simp -dsimp only [go_sem,gS,hw]
 unfold hid at this
 exact this
end
theorem It.opn20 (i:It):∃ y1 y2 y3 y4 y5 y6 y7 y8 y9 y10 y11 y12 y13 y14 y15 y16 y17 y18 y19 y20,i.d=.agg [y1,y2,y3,y4,y5,y6,y7,y8,y9,y10,y11,y12,y13,y14,y15,y16,y17,y18,y19,y20]:=by
 obtain ⟨x1,x2,x3,x4,x5,x6,x7,x8,x9,x10,x11,x12,_,h⟩:=i.opn
 exact ⟨_,_,_,_,_,_,_,_,_,_,_,_,_,_,_,_,_,_,_,_,h⟩
theorem zGW {l:List It} {j:Nat} {i:It} (h:l[j]?=some i):itsT (l.take (j+1))=itsT (l.take j)++i.t:=by
 have e:l.take (j+1)=l.take j++[i]:=by rw [List.take_add_one,h]; rfl
 have app:∀ a b:List It,itsT (a++b)=itsT a++itsT b:=by
  intro a b
  induction a with
  | nil=>rfl
  | cons x a ih=>simp only [List.cons_append,itsT,ih,List.append_assoc]
 rw [e,app]
 simp [itsT]
theorem zDb {l:List It}:∀ j,(itsT (l.take j)).length≤(itsT l).length:=by
 intro j
 have app:∀ a b:List It,itsT (a++b)=itsT a++itsT b:=by
  intro a b
  induction a with
  | nil=>rfl
  | cons x a ih=>simp only [List.cons_append,itsT,ih,List.append_assoc]
 have:=app (l.take j) (l.drop j)
 rw [List.take_append_drop] at this
 rw [this,List.length_append]
 omega
set_option maxHeartbeats 4000000 in
theorem zKX {eb:EbG} (l:List It) (hlen:(itsT l).length≤1099511627776) (hll:l.length≤1048576) (hit:∀ i ∈ l,∀ (H:Heap) (K:A→Heap→Prop),K (.d (.str (xS i.t))) H→ACall Tryz.prog (zK eb) 14 [.d i.d] H K) :
  ACall Tryz.prog (zK eb) 10 [.d (.slice (l.map It.d))] (fun _=>none) (fun r _=>r=.d (.str (xS (itsT l)))):=by
 have hnt:Tryz.f10.ntmps=17:=by kernel_rfl
 refine ACall.of Tryz.func10 rfl (by rw [hnt]; simp) ?_
 intro ds Z a0 w st
 have m:=st.mem
 have hmk:=st.defers
 have hsz0:=st.size
 rw [hnt] at hsz0
 have hcv:RepA (zK eb) w Z (a0.tmps.getD 0 undef) (.d (.slice (l.map It.d))):=st.slots 0 (by rw [hnt]; decide)
 obtain ⟨v0,hv0⟩:∃ v0,v0=a0.tmps.getD 0 undef:=⟨_,rfl⟩
 rw [←hv0] at hcv
 obtain ⟨bl,hbl⟩:∃ bl,bl=w.heap.size:=⟨_,rfl⟩
 -- a frame over the memory of the beginning
 have mk:∀ (G:Nat→A) (a:Act) (w':World),Below w.heap.size w w'→a.tmps.size=17→a.defers=a0.defers→(∀ k:Keeps Z w Z w',∀ i,i < 17→RepA (zK eb) w' Z (a.tmps.getD i undef) (G i))→St (zK eb) 17 ds Z G H0 a w':=by
  intro G a w' hb hs hd hg
  obtain ⟨m',x'⟩:=m.below hb
  have k:Keeps Z w Z w':=m.keeps x'
  exact ⟨by rw [hd]; exact hmk.keep k,hs,fun i hi=>hg k i hi,m'⟩
 have st4:∀ (a:Act) (w':World) (n j:Nat),Below w.heap.size w w'→a.tmps.size=17→a.defers=a0.defers→a.tmps.getD 3 undef=.pointer (some ⟨bl,0,none⟩)→a.tmps.getD 6 undef=v0→a.tmps.getD 7 undef=.int .i64 n→a.tmps.getD 8 undef=.int .i64 j→St (zK eb) 17 ds Z (mkF [(3,.ref bl 0),(6,.d (.slice (l.map It.d))),(7,.d (.int .i64 n)),(8,.d (.int .i64 j))]) H0 a w':=by
  intro a w' n j hb hs hd h3 h6 h7 h8
  refine mk _ a w' hb hs hd fun k i hi=>?_
  simp only [mkF]
  split
  ·rename_i e; subst e; rw [h3]; exact .ref ..
  ·split
   ·rename_i e; subst e; rw [h6]; exact hcv.keep k
   ·split
    ·rename_i e; subst e; rw [h7]; exact .d _ _ (.int ..)
    ·split
     ·rename_i e; subst e; rw [h8]; exact .d _ _ (.int ..)
     ·exact .undef _
 show Code.wpIn _ _ _ _ _ _ _
 refine wpIn_seq (wpIn_region ?_)
 show wpOpsIn _ _ _ _ _ [0] _ _
 refine opV rfl rfl (by intro c h; cases h) (m':=pure (.string ⟨#[]⟩)) rfl rfl ?_
 show Code.wpIn _ _ _ _ _ _ _
 obtain ⟨a1,ha1⟩:∃ a1,a1=a0.put (some 2) (.string ⟨#[]⟩):=⟨_,rfl⟩
 have e1:a1.tmps.getD 0 undef=v0:=by rw [ha1,xY (by decide),hv0]
 have s1:a1.tmps.size=17:=by rw [ha1,vX]; exact hsz0
 have d1:a1.defers=a0.defers:=by rw [ha1,kN]
 show Code.wpIn _ _ _ _ _ (a0.put (some 2) (.string ⟨#[]⟩)) _
 rw [←ha1]
 clear ha1
 refine wpIn_seq (wpIn_region ?_)
 show wpOpsIn _ _ _ _ _ [0] _ _
 refine opV rfl rfl (by intro c h; cases h) (m':=Instr.alloc 79 true (.tuple #[])) rfl (zJ5 w) ?_
 have hb2:Below w.heap.size w (w.alloc (.cells #[.pointer none,.slice none 0 0] 79)):=(Below.refl w.heap.size w).alloc (Nat.le_refl _) _
 have hI2:Lib.IsBuilder 79 5 w.heap.size bl [] (w.alloc (.cells #[.pointer none,.slice none 0 0] 79)):=by
  refine .inl ⟨by omega,.slice none 0 0, ?_,⟨rfl,.inl ⟨rfl,rfl⟩⟩,by simp [Value.ownBlock]⟩
  rw [hbl]
  exact heap_alloc_new w _
 show Code.wpIn _ _ _ _ _ (a1.put (some 3) (.pointer (some ⟨w.heap.size,0,none⟩))) _
 rw [←hbl]
 obtain ⟨a2,ha2⟩:∃ a2,a2=a1.put (some 3) (.pointer (some ⟨bl,0,none⟩)):=⟨_,rfl⟩
 have e2:a2.tmps.getD 0 undef=v0:=by rw [ha2,xY (by decide),e1]
 have p2:a2.tmps.getD 3 undef=.pointer (some ⟨bl,0,none⟩):=by rw [ha2]; exact zBF (by omega) _
 have s2:a2.tmps.size=17:=by rw [ha2,vX]; exact s1
 have d2:a2.defers=a0.defers:=by rw [ha2,kN]; exact d1
 rw [←ha2]
 clear ha2
 generalize w.alloc (.cells #[.pointer none,.slice none 0 0] 79)=w2 at hb2 hI2 ⊢
 refine wpIn_seq (wpIn_seq (wpIn_region ?_))
 show wpOpsIn _ _ _ _ _ [0,1,2] _ _
 refine opV rfl rfl (by intro c h; cases h) (m':=pure (a2.eval (.tmp 0))) rfl rfl ?_
 show wpOpsIn _ _ _ _ _ [1,2] (a2.put (some 6) (a2.tmps.getD 0 undef)) _
 rw [e2]
 obtain ⟨a3,ha3⟩:∃ a3,a3=a2.put (some 6) v0:=⟨_,rfl⟩
 have p3:a3.tmps.getD 3 undef=.pointer (some ⟨bl,0,none⟩):=by rw [ha3,xY (by decide)]; exact p2
 have q3:a3.tmps.getD 6 undef=v0:=by rw [ha3]; exact zBF (by omega) _
 have s3:a3.tmps.size=17:=by rw [ha3,vX]; exact s2
 have d3:a3.defers=a0.defers:=by rw [ha3,kN]; exact d2
 rw [←ha3]
 clear ha3
 have t3:St (zK eb) 17 ds Z (mkF [(3,.ref bl 0),(6,.d (.slice (l.map It.d)))]) H0 a3 w2:=by
  refine mk _ a3 w2 hb2 s3 d3 fun k i hi=>?_
  simp only [mkF]
  split
  ·rename_i e; subst e; rw [p3]; exact .ref ..
  ·split
   ·rename_i e; subst e; rw [q3]; exact hcv.keep k
   ·exact .undef _
 refine opS rfl rfl t3 (zSz bl (l.map It.d)) ?_
 rintro x v Z3 H3 w3 _ r3 x3 ⟨rfl,rfl⟩
 have hv:v=.int .i64 l.length:=by
  have r:=r3.deep
  rw [List.length_map] at r
  cases r; rfl
 subst hv
 have hb23:Below w2.heap.size w2 w3:=Ext.below0 x3
 have hb3:Below w.heap.size w w3:=hb2.trans (jQ hb23 hb2.size)
 have hI3:=IsBuilder.below hI2 hb23
 show wpOpsIn _ _ _ _ _ [2] (a3.put (some 7) (.int .i64 l.length)) _
 refine opV rfl rfl (by intro c h; cases h) (m':=pure (.int .i64 0)) rfl rfl ?_
 show Code.wpIn _ _ _ _ _ ((a3.put (some 7) (.int .i64 l.length)).put (some 8) (.int .i64 0)) _
 refine wpIn_block (wpIn_loop_ghost (fun n a' w'=>Below w.heap.size w w'∧a'.tmps.size=17∧a'.defers=a0.defers∧a'.tmps.getD 3 undef=.pointer (some ⟨bl,0,none⟩)∧a'.tmps.getD 6 undef=v0∧a'.tmps.getD 7 undef=.int .i64 l.length ∧
   ∃ j:Nat,j≤l.length∧n=l.length - j∧a'.tmps.getD 8 undef=.int .i64 j∧Lib.IsBuilder 79 5 w.heap.size bl (Lib.byteCells (itsT (l.take j))) w') l.length
  ⟨hb3,by rw [vX,vX]; exact s3,by rw [kN,kN]; exact d3,by rw [xY (by decide),xY (by decide)]; exact p3,by rw [xY (by decide),xY (by decide)]; exact q3,by rw [xY (by decide)]; exact zBF (by omega) _,
   0,Nat.zero_le _,rfl,zBF (by rw [vX]; omega) _,hI3⟩ ?_)
 rintro n a4 w4 ⟨hb4,s4,d4,h3,h6,h7,j,hj,rfl,h8,hI4⟩
 have T4:=st4 a4 w4 l.length j hb4 s4 d4 h3 h6 h7 h8
 refine wpIn_seq (wpIn_region ?_)
 show wpOpsIn _ _ _ _ _ [0] _ _
 refine opS rfl rfl T4 (zSA bl j l.length (l.map It.d)) ?_
 rintro x v Z5 H5 w5 _ r5 x5 ⟨rfl,rfl⟩
 have hv:v=.bool (decide ((j:Int) < l.length)):=by
  have r:=r5.deep
  cases r; rfl
 subst hv
 have hb45:Below w4.heap.size w4 w5:=Ext.below0 x5
 have hb5:Below w.heap.size w w5:=hb4.trans (jQ hb45 hb4.size)
 have hI5:=IsBuilder.below hI4 hb45
 obtain ⟨a5,ha5⟩:∃ a5,a5=a4.put (some 9) (.bool (decide ((j:Int) < l.length))):=⟨_,rfl⟩
 have g3:a5.tmps.getD 3 undef=.pointer (some ⟨bl,0,none⟩):=by rw [ha5,xY (by decide)]; exact h3
 have g6:a5.tmps.getD 6 undef=v0:=by rw [ha5,xY (by decide)]; exact h6
 have g7:a5.tmps.getD 7 undef=.int .i64 l.length:=by rw [ha5,xY (by decide)]; exact h7
 have g8:a5.tmps.getD 8 undef=.int .i64 j:=by rw [ha5,xY (by decide)]; exact h8
 have g9:a5.tmps.getD 9 undef=.bool (decide ((j:Int) < l.length)):=by rw [ha5]; exact zBF (by omega) _
 have s5:a5.tmps.size=17:=by rw [ha5,vX]; exact s4
 have d5:a5.defers=a0.defers:=by rw [ha5,kN]; exact d4
 show Code.wpIn _ _ _ _ _ (a4.put (some 9) (.bool (decide ((j:Int) < l.length)))) _
 rw [←ha5]
 clear ha5 r5
 have hv9:a5.eval (.tmp 9)=.bool (decide ((j:Int) < l.length)):=g9
 by_cases hjl:j < l.length
 ·rw [decide_eq_true (show (j:Int) < l.length by omega)] at hv9
  refine wpIn_seq (wpIn_cond_true hv9 (wpIn_skip ?_))
  show Code.wpIn _ _ _ _ _ _ _
  obtain ⟨i,hi⟩:∃ i,l[j]?=some i:=⟨_,List.getElem?_eq_getElem hjl⟩
  have hmem:=List.mem_of_getElem? hi
  have hit:=hit i hmem
  have htk:=zGW hi
  have hle:=zDb (l:=l) (j+1)
  rw [htk,List.length_append] at hle
  generalize i.t=tx at hit htk hle
  have hdx:(l.map It.d)[j]?=some i.d:=by rw [List.getElem?_map,hi]; rfl
  obtain ⟨y1,y2,y3,y4,y5,y6,y7,y8,y9,y10,y11,y12,y13,y14,y15,y16,y17,y18,y19,y20,hid⟩:=It.opn20 i
  rw [hid] at hit hdx
  have T5:=st4 a5 w5 l.length j hb5 s5 d5 g3 g6 g7 g8
  refine wpIn_seq (wpIn_block (wpIn_seq (wpIn_region ?_)))
  show wpOpsIn _ _ _ _ _ [0,1,2,3] _ _
  refine opS rfl rfl T5 (zSy bl j l.length (l.map It.d) _ hdx rfl) ?_
  rintro x v10 Z6 H6 w6 T6 _ x6' ⟨rfl,rfl⟩
  have hb6:Below w5.heap.size w5 w6:=Ext.below0 x6'
  refine opS rfl rfl (T6.le (G:=mkF [(10,.imm [y1,y2,y3,y4,y5,y6,y7,y8,y9,y10,y11,y12,y13,y14,y15,y16,y17,y18,y19,y20])]) (zAy _ (by simp [putF,updF,mkF])) (.refl _)) (zW8 y1 y2 y3 y4 y5 y6 y7 y8 y9 y10 y11 y12 y13 y14 y15 y16 y17 y18 y19 y20) ?_
  rintro x v11 Z7 H7 w7 T7 _ x7' ⟨rfl,rfl⟩
  have hb7:Below w6.heap.size w6 w7:=Ext.below0 x7'
  refine opS rfl rfl (T7.le (G:=mkF [(11,.d (.agg [y1,y2,y3,y4,y5,y6,y7,y8,y9,y10,y11,y12,y13,y14,y15,y16,y17,y18,y19,y20]))]) (zAy _ (by simp [putF,updF,mkF])) (.refl _)) (zMA y1 y2 y3 y4 y5 y6 y7 y8 y9 y10 y11 y12 y13 y14 y15 y16 y17 y18 y19 y20) ?_
  rintro x v5 Z8 H8 w8 T8 _ x8' ⟨b5,rfl,rfl⟩
  have hb8:Below w7.heap.size w7 w8:=Ext.below0 x8'
  have x78:Ext Z7 H0 w7 Z8 (upd H0 b5 (.var zKb)) w8:=x8'
  refine opS rfl rfl (T8.le (G:=mkF [(5,.ref b5 0),(11,.d (.agg [y1,y2,y3,y4,y5,y6,y7,y8,y9,y10,y11,y12,y13,y14,y15,y16,y17,y18,y19,y20]))]) (zAy _ (by simp [putF,updF,mkF])) (.refl _)) (zMB y1 y2 y3 y4 y5 y6 y7 y8 y9 y10 y11 y12 y13 y14 y15 y16 y17 y18 y19 y20 b5) ?_
  rintro x v0' Z9 H9 w9 T9 _ x9' rfl
  have x79:=x78.trans T7.mem.zlt x9'
  show Code.wpIn _ _ _ _ _ _ _
  refine wpIn_region ?_
  show wpOpsIn _ _ _ _ _ [0,1,2] _ _
  refine opS rfl rfl (T9.le (G:=mkF [(5,.ref b5 0)]) (zAy _ (by simp [putF,updF,mkF])) (.refl _)) (zPw y1 y2 y3 y4 y5 y6 y7 y8 y9 y10 y11 y12 y13 y14 y15 y16 y17 y18 y19 y20 b5) ?_
  rintro x v12 Z10 H10 w10 T10 _ x10' rfl
  have x710:=x79.trans T7.mem.zlt x10'
  have hb10:Below w7.heap.size w7 w10:=Ext.below0 x710
  refine opS rfl rfl (T10.le (G:=mkF [(12,.d (.agg [y1,y2,y3,y4,y5,y6,y7,y8,y9,y10,y11,y12,y13,y14,y15,y16,y17,y18,y19,y20]))]) (zAy _ (by simp [putF,updF,mkF])) (fun _ _ h=>by cases h)) (zPv y1 y2 y3 y4 y5 y6 y7 y8 y9 y10 y11 y12 y13 y14 y15 y16 y17 y18 y19 y20 (xS tx) hit) ?_
  rintro x v13 Z11 H11 w11 T11 r11 x11' rfl
  have hb11:Below w10.heap.size w10 w11:=Ext.below0 x11'
  have hv13:v13=.string (xS tx):=by
   have r:=r11.deep
   cases r; rfl
  subst hv13
  have c6:Below w5.heap.size w5 w11:=by
   have a:=hb6
   have b:=a.trans (jQ hb7 a.size)
   have c:=b.trans (jQ hb10 b.size)
   exact c.trans (jQ hb11 c.size)
  have hb511:Below w.heap.size w w11:=hb5.trans (jQ c6 hb5.size)
  have hI11:=IsBuilder.below hI5 c6
  obtain ⟨a6,ha6⟩:∃ a6,a6=((((((a5.put (some 10) v10).put (some 11) v11).put (some 5) v5).put none v0').put (some 12) v12).put (some 13) (.string (xS tx))):=⟨_,rfl⟩
  have k3:a6.tmps.getD 3 undef=.pointer (some ⟨bl,0,none⟩):=by rw [ha6,xY (by decide),xY (by decide),xY (by decide),xY (by decide),xY (by decide),xY (by decide)]; exact g3
  have k6:a6.tmps.getD 6 undef=v0:=by rw [ha6,xY (by decide),xY (by decide),xY (by decide),xY (by decide),xY (by decide),xY (by decide)]; exact g6
  have k7:a6.tmps.getD 7 undef=.int .i64 l.length:=by rw [ha6,xY (by decide),xY (by decide),xY (by decide),xY (by decide),xY (by decide),xY (by decide)]; exact g7
  have k8:a6.tmps.getD 8 undef=.int .i64 j:=by rw [ha6,xY (by decide),xY (by decide),xY (by decide),xY (by decide),xY (by decide),xY (by decide)]; exact g8
  have k13:a6.tmps.getD 13 undef=.string (xS tx):=by rw [ha6]; exact zBF (by simp only [vX]; omega) _
  have s6:a6.tmps.size=17:=by rw [ha6]; simp only [vX]; exact s5
  have d6:a6.defers=a0.defers:=by rw [ha6]; simp only [kN]; exact d5
  show wpOpsIn _ _ _ _ _ [2] ((((((a5.put (some 10) v10).put (some 11) v11).put (some 5) v5).put none v0').put (some 12) v12).put (some 13) (.string (xS tx))) _
  rw [←ha6]
  have hwl:(Lib.byteCells (itsT (l.take j))).length+(xS tx).size≤140737488355328:=by
   rw [jR]
   have:(Lib.byteCells (itsT (l.take j))).length=(itsT (l.take j)).length:=by simp [Lib.byteCells]
   omega
  have hev3:a6.eval (.tmp 3)=.pointer (some ⟨bl,0,none⟩):=k3
  have hev13:a6.eval (.tmp 13)=.string (xS tx):=k13
  refine opC rfl rfl rfl rfl (by simp [hev3,hev13]) zPR (zGw w.heap.size bl _ (xS tx) w11 hI11 hwl hb511.size) ?_
  rintro e w12 ⟨rfl,hA,hb12⟩
  refine ⟨_,rfl, ?_⟩
  have hbw:Below w.heap.size w w12:=hb511.trans hb12
  have hI12:Lib.IsBuilder 79 5 w.heap.size bl (Lib.byteCells (itsT (l.take (j+1)))) w12:=.inr (by
   have e:Lib.byteCells (itsT (l.take (j+1)))=Lib.byteCells (itsT (l.take j))++Lib.strCells (xS tx):=by rw [htk]; simp [Lib.strCells_eq,Lib.byteCells,xS]
   rw [e]; exact hA)
  obtain ⟨a7,ha7⟩:∃ a7,a7=a6.put (some 14) (.tuple #[.int .i64 (xS tx).size,.nilIface]):=⟨_,rfl⟩
  have m3:a7.tmps.getD 3 undef=.pointer (some ⟨bl,0,none⟩):=by rw [ha7,xY (by decide)]; exact k3
  have m6:a7.tmps.getD 6 undef=v0:=by rw [ha7,xY (by decide)]; exact k6
  have m7:a7.tmps.getD 7 undef=.int .i64 l.length:=by rw [ha7,xY (by decide)]; exact k7
  have m8:a7.tmps.getD 8 undef=.int .i64 j:=by rw [ha7,xY (by decide)]; exact k8
  have s7:a7.tmps.size=17:=by rw [ha7,vX]; exact s6
  have d7:a7.defers=a0.defers:=by rw [ha7,kN]; exact d6
  show Code.wpIn _ _ _ _ _ (a6.put (some 14) (.tuple #[.int .i64 (xS tx).size,.nilIface])) _
  rw [←ha7]
  have T7':=st4 a7 w12 l.length j hbw s7 d7 m3 m6 m7 m8
  refine wpIn_region ?_
  show wpOpsIn _ _ _ _ _ [0,1] _ _
  refine opS rfl rfl (T7'.le (G:=mkF [(8,.d (.int .i64 j))]) (zAy _ (by simp [mkF])) (.refl _)) (zSx j (by omega)) ?_
  rintro x v15 Z13 H13 w13 _ r13 x13 ⟨rfl,rfl⟩
  have hv15:v15=.int .i64 ((j+1:Nat):Int):=by
   have r:=r13.deep
   cases r; rfl
  subst hv15
  have hb13:Below w12.heap.size w12 w13:=Ext.below0 x13
  refine opV rfl rfl (by intro c h; cases h) (m':=pure ((a7.put (some 15) (.int .i64 ((j+1:Nat):Int))).eval (.tmp 15))) rfl rfl ?_
  have hev15:(a7.put (some 15) (.int .i64 ((j+1:Nat):Int))).eval (.tmp 15)=.int .i64 ((j+1:Nat):Int):=zBF (by omega) _
  rw [hev15]
  refine ⟨l.length - (j+1),by omega,hbw.trans (jQ hb13 hbw.size),by show ((a7.put _ _).put _ _).tmps.size=17; rw [vX,vX]; exact s7,by show ((a7.put _ _).put _ _).defers=_; rw [kN,kN]; exact d7,
   by show ((a7.put (some 15) _).put (some 8) _).tmps.getD 3 undef=_; rw [xY (by decide),xY (by decide)]; exact m3,by show ((a7.put (some 15) _).put (some 8) _).tmps.getD 6 undef=_; rw [xY (by decide),xY (by decide)]; exact m6,
   by show ((a7.put (some 15) _).put (some 8) _).tmps.getD 7 undef=_; rw [xY (by decide),xY (by decide)]; exact m7,j+1,hjl,rfl,by show ((a7.put (some 15) _).put (some 8) _).tmps.getD 8 undef=_; exact zBF (by rw [vX]; omega) _,IsBuilder.below hI12 hb13⟩
 ·rw [decide_eq_false (show ¬ (j:Int) < l.length by omega)] at hv9
  have hje:j=l.length:=by omega
  subst hje
  rw [List.take_length] at hI5
  refine wpIn_seq (wpIn_cond_false hv9 (wpIn_exit ?_))
  show Code.wpIn _ _ _ _ _ _ _
  have hev3:a5.eval (.tmp 3)=.pointer (some ⟨bl,0,none⟩):=g3
  refine wpIn_seq (wpIn_region ?_)
  show wpOpsIn _ _ _ _ _ [0,1] _ _
  refine opC rfl rfl rfl rfl (by simp [hev3]) zPQ (Tryz.Builder_String_any w.heap.size bl (itsT l) w5 hI5 hb5.size) ?_
  rintro e w6 ⟨rfl,hb56⟩
  refine ⟨_,rfl, ?_⟩
  have hb6:Below w.heap.size w w6:=hb5.trans hb56
  refine opV rfl rfl (by intro c h; cases h) (m':=pure ((a5.put (some 16) (.string ⟨(itsT l).toArray⟩)).eval (.tmp 16))) rfl rfl ?_
  have hev16:(a5.put (some 16) (.string ⟨(itsT l).toArray⟩)).eval (.tmp 16)=.string ⟨(itsT l).toArray⟩:=zBF (by omega) _
  rw [hev16]
  show Code.wpIn _ _ _ _ _ _ _
  refine wpIn_ret ?_
  have T6:St (zK eb) 17 ds Z (mkF [(2,.d (.str (xS (itsT l))))]) H0 ((a5.put (some 16) (.string ⟨(itsT l).toArray⟩)).put (some 2) (.string ⟨(itsT l).toArray⟩)) w6:=by
   refine mk _ _ w6 hb6 (by rw [vX,vX]; exact s5) (by rw [kN,kN]; exact d5) fun k i hi=>?_
   simp only [mkF]
   split
   ·rename_i e; subst e; rw [zBF (by rw [vX]; omega)]; exact .d _ _ (.str _)
   ·exact .undef _
  obtain ⟨_,xf⟩:=m.below hb6
  refine ⟨Z,mkF [(2,.d (.str (xS (itsT l))))],H0, ?_,xf, ?_⟩
  ·rw [hnt]; exact T6
  ·have hres:Tryz.f10.results.toList=[.tmp 2]:=by kernel_rfl
   have hr:vJ Tryz.prog (zK eb) Tryz.f10.ntmps (mkF [(2,.d (.str (xS (itsT l))))]) H0 Tryz.f10.results.toList=some [.d (.str (xS (itsT l)))]:=by rw [hres,hnt]; rfl
   unfold retQ
   simp only [hr]
   exact zC rfl
theorem zH2 {eb:EbG} (l:List It) (hlen:(itsT l).length≤1099511627776) (hll:l.length≤1048576) (hit:∀ i ∈ l,∀ (H:Heap) (K:A→Heap→Prop),K (.d (.str (xS i.t))) H→ACall Tryz.prog (zK eb) 14 [.d i.d] H K) (H:Heap) (K:A→Heap→Prop) (hK:K (.d (.str (xS (itsT l)))) H) :
  ACall Tryz.prog (zK eb) 10 [.d (.slice (l.map It.d))] H K :=
 (ACall.keep (K:=fun r=>r=.d (.str (xS (itsT l)))) (zKX l hlen hll hit)).mono fun r H' h=>by obtain ⟨rfl,rfl⟩:=h; exact hK
end Go.Aug

/- alive of the layer of printing; the reference's Source. -/
namespace Go.Aug
open Go.Proofs
set_option maxRecDepth 100000
set_option linter.unusedSimpArgs false
def decF:Nat→Nat→List UInt8→List UInt8
 | 0,_,acc=>acc
 | f+1,u,acc=>match Nat.blt u 10 with
  | true=>UInt8.ofNat (48+u)::acc
  | false=>decF f (u / 10) (UInt8.ofNat (48+u % 10)::acc)
theorem zHL:∀ (f u:Nat) (acc:List UInt8),u < 10 ^ (f+1)→decF (f+1) u acc=Lib.decDigits u++acc
 | f,u,acc,h=>by
  rw [Lib.decDigits]
  unfold decF
  by_cases hu:u < 10
  ·have:Nat.blt u 10=true:=Nat.ble_eq_true_of_le hu
   rw [this,dif_pos hu]; rfl
  ·have:Nat.blt u 10=false:=by
    cases hb:Nat.blt u 10 with
    | false=>rfl
    | true=>exact (hu (Nat.le_of_ble_eq_true hb)).elim
   rw [this,dif_neg hu]
   simp only
   cases f with
   | zero=>simp at h; omega
   | succ f =>
    rw [zHL f (u / 10) _ (by rw [Nat.pow_succ] at h; omega)]
    simp
def zTm:Int→List UInt8
 | .ofNat n=>decF 20 n []
 | .negSucc n=>45::decF 20 (n+1) []
theorem zM9 (n:Int) (h0:-9223372036854775808≤n) (h1:n≤9223372036854775807):zTm n=Lib.itoa n:=by
 unfold zTm Lib.itoa
 cases n with
 | ofNat n =>
  simp only [Int.ofNat_eq_natCast] at h1 ⊢
  rw [if_neg (by omega),zHL 19 n [] (by omega)]
  simp
 | negSucc n =>
  simp only
  rw [if_pos (Int.negSucc_lt_zero n),zHL 19 (n+1) [] (by omega)]
  simp
def nP:ByteArray:=⟨#[112,58,45,40,97,59,98,41,44,110,111,116,40,99,44,100,41,46]⟩
def zMY (n:UInt8):Gl:=.mk 4 .none .none ⟨#[n]⟩ [] []
def zMZ (k:Int) (gs:List Gl):Gl:=.mk k .none .none ⟨#[]⟩ [] gs
def itP:It:={ (default:It) with kind:=4,name:=⟨#[112]⟩,args:=[],body:=zMZ 5 [zMZ 6 [zMY 97,zMY 98],zMZ 7 [zMZ 5 [zMY 99,zMY 100]]] }
theorem zTR:rpS nP=([itP],0):=by kernel_rfl
def tP:List UInt8:=[112,32,58,45,32,40,97,32,59,32,98,41,44,32,110,111,116,32,40,99,44,32,100,41,46,10]
theorem zX6:itsT [itP]=tP:=by kernel_rfl
theorem zTQ:Lib.itoa (-9223372036854775808)=[45,57,50,50,51,51,55,50,48,51,54,56,53,52,55,55,53,56,48,56]:=by
 rw [←zM9 _ (by decide) (by decide)]
 kernel_rfl
section
attribute [local irreducible] hid andK letA zR wN xX yH xR xE wR idxA ldV ldD addO xD appTo wF slA srcK nilQ retW gif sgd yT svc sops xQ yX aopO xT yU aBin aUn wK aLen zL yW zI yG xC yF yZ zJ zM yV zX yE xG xU frzM putE newK newV wP ACall xH wD zW sret cnd szs nilC yK zQ yA
attribute [local go_sem] Int.natCast_zero
variable {eb:EbG}
theorem zTn [Envs eb] {s:ByteArray} {l:List It} (h:rpS s=(l,0)) (i:It) (hi:i ∈ l) (H:Heap) (K:A→Heap→Prop) (hK:K (.d (.str (xS i.t))) H):ACall Tryz.prog (zK eb) 14 [.d i.d] H K :=
 zJK i ((qE h).1 i hi) (zEU h i hi) hK
theorem zPY {s:ByteArray} {l:List It} (h:rpS s=(l,0)):∀ i ∈ l,i.t.length≤251658300:=fun i hi=>by
 have:=Prn.It.len i.p (It.p_ok ((qE h).1 i hi))
 rw [It.p_t,It.p_cs] at this
 have h2:=zEU h i hi
 omega
theorem zIO:∀ (l:List It) (n:Nat),(∀ i ∈ l,i.t.length≤n)→(itsT l).length≤n * l.length
 | [],n,_=>by simp [itsT]
 | i::l,n,h=>by
  have h1:=h i (.head _)
  have h2:=zIO l n fun x hx=>h x (.tail _ hx)
  simp only [itsT,List.length_append,List.length_cons,Nat.mul_add,Nat.mul_one]
  omega
theorem zIh {s:ByteArray} {l:List It} (h:rpS s=(l,0)):(itsT l).length≤1099511627776:=by
 have h1:=zIO l 251658300 (zPY h)
 have h2:=(qE h).2
 have h3:251658300 * l.length≤251658300 * 512:=Nat.mul_le_mul_left _ h2
 omega
theorem zIg [Envs eb] {s:ByteArray} {l:List It} (h:rpS s=(l,0)) (H:Heap) (K:A→Heap→Prop) (hK:K (.d (.str (xS (itsT l)))) H):ACall Tryz.prog (zK eb) 10 [.d (.slice (l.map It.d))] H K :=
 zH2 l (zIh h) (by have:=(qE h).2; omega) (fun i hi H K hK=>zTn h i hi H K hK) H K hK
set_option maxHeartbeats 2000000 in
theorem zJu [Envs eb] (H:Heap) (K:A→Heap→Prop) (hK:K (.d (.bool true)) H):ACall Tryz.prog (zK eb) 8 [] H K:=by
 have hp:=fun H=>zEm (eb:=eb) H nP
 rw [zTR] at hp
 have hs:=fun H=>zIg (eb:=eb) zTR H
 rw [zX6] at hs
 have e0:errD 0=.raw .nilIface:=rfl
 simp only [e0] at hp
 have hd1:decide ((xS tP:ByteArray)=⟨#[112,32,58,45,32,40,97,32,59,32,98,41,44,32,110,111,116,32,40,99,44,32,100,41,46,10]⟩)=true:=by decide
 have ht:Prn.Tm.t (.mk 2 [] (-9223372036854775808) [])=[45,57,50,50,51,51,55,50,48,51,54,56,53,52,55,55,53,56,48,56]:=by simp [Prn.Tm.t,Prn.Tm.ts,Prn.rowT,zTQ]
 have hm:=fun (H:Heap) (K:A→Heap→Prop) (hK:K (.d (.str ⟨#[45,57,50,50,51,51,55,50,48,51,54,56,53,52,55,55,53,56,48,56]⟩)) H)=>(Prn.term_ok (eb:=eb) (.mk 2 [] (-9223372036854775808) []) ⟨wX (by decide) (by decide),⟨by decide,by decide⟩,trivial⟩ (by decide) H K (by rw [ht]; exact hK):ACall Tryz.prog (zK eb) 22 [.d (.agg [.int .i64 2,.str ⟨#[]⟩,.int .i64 (-9223372036854775808),.slice []])] H K)
 have hd2:decide ((⟨#[45,57,50,50,51,51,55,50,48,51,54,56,53,52,55,55,53,56,48,56]⟩:ByteArray)=⟨#[45,57,50,50,51,51,55,50,48,51,54,56,53,52,55,55,53,56,48,56]⟩)=true:=by decide
 refine ACall.hp_start ?_
 refine ACall.by mixed fn8 (by simp) ?_
 conv in s8=>cbv
 refine zG ?_
 simp -dsimp only [go_sem,gS]
 refine hp _ _ ?_
 simp -dsimp only [go_sem,gS]
 refine zA rfl ?_
 simp -dsimp only [go_sem,gS]
 refine hs _ _ ?_
 simp -dsimp only [go_sem,gS,hd1]
 refine ACall.frz [true] ?_
 simp -dsimp only [go_sem,gS,frzM]
 refine hm _ _ ?_
 simp -dsimp only [go_sem,gS,hd2]
 exact zC hK
end
end Go.Aug
