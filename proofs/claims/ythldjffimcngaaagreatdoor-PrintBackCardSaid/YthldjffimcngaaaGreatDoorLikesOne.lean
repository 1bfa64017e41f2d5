/- The contracts of comparisons of a thing with itself; conditions stand in each contract. -/
import Derived.Test.YthldjffimcngaaaGreatDoorReaderFour
import Derived.Test.YthldjffimcngaaaGreatDoorGrammarOne
set_option linter.all false
set_option linter.unusedVariables false
set_option linter.unusedSimpArgs false
set_option linter.unusedSectionVars false

/- Walks of SmA. -/
namespace Go.Aug
open Go.Proofs
set_option maxRecDepth 100000
set_option linter.unusedSimpArgs false
attribute [local irreducible] hid andK letA zR wN xX yH xR xE wR idxA ldV ldD addO xD appTo wF slA srcK nilQ retW gif sgd yT svc sops xQ yX aopO xT yU aBin aUn wK aLen zL yW zI yG xC yF yZ zJ zM yV zX yE xG xU frzM putE newK newV wP ACall xH wD zW sret cnd szs nilC yK zQ yA
attribute [local go_sem] Int.natCast_zero
theorem zCw {eb:EbG} (ts:List Tm) (hl:ts.length≤1048576) (h:∀ t ∈ ts,∀ (H:Heap) (K:A→Heap→Prop),K (.d (.bool true)) H→ACall Tryz.prog (zK eb) 23 [.d t.d,.d t.d] H K) (H:Heap) (K:A→Heap→Prop) (hK:K (.d (.bool true)) H) :
  ACall Tryz.prog (zK eb) 56 [.d (.slice (ts.map Tm.d)),.d (.slice (ts.map Tm.d))] H K:=by
 refine ACall.by mixed fn56 (by simp) ?_
 conv in s56=>cbv
 refine zG ?_
 simp -dsimp only [go_sem,gS,decide_true]
 refine yP (X:=Nat) (fun j=>[(0,.d (.slice (ts.map Tm.d))),(1,.d (.slice (ts.map Tm.d))),(12,.d (.int .i64 ts.length)),(13,.d (.int .i64 j))]) (fun j G=>G=H∧j≤ts.length) (fun j=>ts.length - j) 0 _ ⟨rfl,Nat.zero_le _⟩ (by simp -dsimp only [go_sem,gS]) (fun _ _ h=>h) ?_
 rintro j G ⟨hG,hj⟩
 subst hG
 simp -dsimp only [go_sem,gS]
 refine zD (fun q1=>?_) (fun q1=>?_)
 ·have q1':j < ts.length:=by have:=of_decide_eq_true q1; omega
  obtain ⟨t,hx⟩:=zBc q1'
  have hw:=qT (k:=j) (by omega)
  have ht:=h t (List.mem_of_getElem? hx)
  obtain ⟨tk,tn,ti,ta⟩:=t
  simp -dsimp only [go_sem,gS,q1,hx,Tm.d,Tm.cs]
  refine ht _ _ ?_
  simp -dsimp only [go_sem,gS,hw]
  refine zP (j+1) _ ⟨rfl,q1'⟩ (by omega) (by simp -dsimp only [go_sem,gS]) (fun _ _ h=>h)
 ·simp -dsimp only [go_sem,gS,q1]
  exact zC hK
theorem zCy {eb:EbG} (ts:List Ty) (hl:ts.length≤1048576) (h:∀ t ∈ ts,∀ (H:Heap) (K:A→Heap→Prop),K (.d (.bool true)) H→ACall Tryz.prog (zK eb) 26 [.d t.d,.d t.d] H K) (H:Heap) (K:A→Heap→Prop) (hK:K (.d (.bool true)) H) :
  ACall Tryz.prog (zK eb) 64 [.d (.slice (ts.map Ty.d)),.d (.slice (ts.map Ty.d))] H K:=by
 refine ACall.by mixed fn64 (by simp) ?_
 conv in s64=>cbv
 refine zG ?_
 simp -dsimp only [go_sem,gS,decide_true]
 refine yP (X:=Nat) (fun j=>[(0,.d (.slice (ts.map Ty.d))),(1,.d (.slice (ts.map Ty.d))),(12,.d (.int .i64 ts.length)),(13,.d (.int .i64 j))]) (fun j G=>G=H∧j≤ts.length) (fun j=>ts.length - j) 0 _ ⟨rfl,Nat.zero_le _⟩ (by simp -dsimp only [go_sem,gS]) (fun _ _ h=>h) ?_
 rintro j G ⟨hG,hj⟩
 subst hG
 simp -dsimp only [go_sem,gS]
 refine zD (fun q1=>?_) (fun q1=>?_)
 ·have q1':j < ts.length:=by have:=of_decide_eq_true q1; omega
  obtain ⟨t,hx⟩:=zBc q1'
  have hw:=qT (k:=j) (by omega)
  have ht:=h t (List.mem_of_getElem? hx)
  obtain ⟨tv,tn,ta⟩:=t
  simp -dsimp only [go_sem,gS,q1,hx,Ty.d,Ty.cs]
  refine ht _ _ ?_
  simp -dsimp only [go_sem,gS,hw]
  refine zP (j+1) _ ⟨rfl,q1'⟩ (by omega) (by simp -dsimp only [go_sem,gS]) (fun _ _ h=>h)
 ·simp -dsimp only [go_sem,gS,q1]
  exact zC hK
theorem zAe {eb:EbG}:∀ (m:Nat) (t:Tm),t.nodes≤m→t.small→∀ (H:Heap) (K:A→Heap→Prop),K (.d (.bool true)) H→ACall Tryz.prog (zK eb) 23 [.d t.d,.d t.d] H K
 | 0,t,hm,_,_,_,_=>by have:=t.nodes_pos; omega
 | m+1,.mk k n i ts,hm,hs,H,K,hK=>by
  simp only [Tm.nodes] at hm
  refine ACall.hp_start ?_
  refine ACall.by mixed fn23 (by simp) ?_
  conv in s23=>cbv
  refine zG ?_
  simp -dsimp only [go_sem,gS,Tm.d,Tm.cs,Tm.ds_map]
  refine yI (fun b2 f2=>?_)
  simp only [zN,zU] at f2
  simp -dsimp only [go_sem,gS,f2]
  refine yI (fun b3 f3=>?_)
  simp only [zN,zU] at f3
  simp -dsimp only [go_sem,gS,f2,f3,decide_true]
  refine zCw ts (by have:=hs.1; omega) (fun t ht=>zAe m t (by have:=Tm.nodess_mem ht; omega) (Tm.smalls_mem hs.2 t ht)) _ _ ?_
  simp -dsimp only [go_sem,gS,f2,f3]
  exact zB (G:=H) (vQ (by simp only [hpS,eq_self,implies_true,f2,f3])) (zC hK)
theorem zBG {eb:EbG} (ts:List Tm) (hl:ts.length≤1048576) (hs:Tm.smalls ts) (H:Heap) (K:A→Heap→Prop) (hK:K (.d (.bool true)) H) :
  ACall Tryz.prog (zK eb) 56 [.d (.slice (ts.map Tm.d)),.d (.slice (ts.map Tm.d))] H K :=
 zCw ts hl (fun t ht=>zAe t.nodes t (Nat.le_refl _) (Tm.smalls_mem hs t ht)) H K hK
theorem zCx {eb:EbG}:∀ (m:Nat) (t:Ty),t.nodes≤m→t.small→∀ (H:Heap) (K:A→Heap→Prop),K (.d (.bool true)) H→ACall Tryz.prog (zK eb) 26 [.d t.d,.d t.d] H K
 | 0,.mk v n ts,hm,_,_,_,_=>by simp only [Ty.nodes] at hm; omega
 | m+1,.mk v n ts,hm,hs,H,K,hK=>by
  simp only [Ty.nodes] at hm
  refine ACall.hp_start ?_
  refine ACall.by mixed fn26 (by simp) ?_
  conv in s26=>cbv
  refine zG ?_
  simp -dsimp only [go_sem,gS,Ty.d,Ty.cs,Ty.ds_map]
  refine yI (fun b2 f2=>?_)
  simp only [zN,zU] at f2
  simp -dsimp only [go_sem,gS,f2]
  refine yI (fun b3 f3=>?_)
  simp only [zN,zU] at f3
  simp -dsimp only [go_sem,gS,f2,f3,decide_true,beq_self_eq_true]
  refine zCy ts (by have:=hs.1; omega) (fun t ht=>zCx m t (by have:=Ty.nodess_mem ht; omega) (Ty.smalls_mem hs.2 t ht)) _ _ ?_
  simp -dsimp only [go_sem,gS,f2,f3]
  exact zB (G:=H) (vQ (by simp only [hpS,eq_self,implies_true,f2,f3])) (zC hK)
theorem zBH {eb:EbG} (ts:List Ty) (hl:ts.length≤1048576) (hs:Ty.smalls ts) (H:Heap) (K:A→Heap→Prop) (hK:K (.d (.bool true)) H) :
  ACall Tryz.prog (zK eb) 64 [.d (.slice (ts.map Ty.d)),.d (.slice (ts.map Ty.d))] H K :=
 zCy ts hl (fun t ht=>zCx t.nodes t (Nat.le_refl _) (Ty.smalls_mem hs t ht)) H K hK
end Go.Aug

/- Walks of SmB. -/
namespace Go.Aug
open Go.Proofs
set_option maxRecDepth 100000
set_option linter.unusedSimpArgs false
attribute [local irreducible] hid andK letA zR wN xX yH xR xE wR idxA ldV ldD addO xD appTo wF slA srcK nilQ retW gif sgd yT svc sops xQ yX aopO xT yU aBin aUn wK aLen zL yW zI yG xC yF yZ zJ zM yV zX yE xG xU frzM putE newK newV wP ACall xH wD zW sret cnd szs nilC yK zQ yA
attribute [local go_sem] Int.natCast_zero
set_option maxHeartbeats 4000000 in
theorem zCv {eb:EbG}:∀ (m:Nat) (g:Gl),g.nodes≤m→g.small→∀ (H:Heap) (K:A→Heap→Prop),K (.d (.bool true)) H→ACall Tryz.prog (zK eb) 20 [.d g.d,.d g.d] H K
 | 0,g,hm,_,_,_,_=>by have:=g.nodes_pos; omega
 | m+1,.mk k (.mk k1 n1 i1 xs1) (.mk k2 n2 i2 xs2) n xs gs,hm,hs,H,K,hK=>by
  obtain ⟨hsa,hsb,hxl,hsx,hgl,hsg⟩:=hs
  simp only [Gl.nodes] at hm
  have hta:=fun H=>zAe (eb:=eb) _ (.mk k1 n1 i1 xs1) (Nat.le_refl _) hsa H
  have htb:=fun H=>zAe (eb:=eb) _ (.mk k2 n2 i2 xs2) (Nat.le_refl _) hsb H
  refine ACall.hp_start ?_
  refine ACall.by mixed fn20 (by simp) ?_
  conv in s20=>cbv
  refine zG ?_
  simp -dsimp only [go_sem,gS,Gl.d,Gl.cs,Tm.cs,List.cons_append,List.nil_append,Gl.ds_map]
  refine yI (fun b2 f2=>?_)
  simp only [zN,zU] at f2
  simp -dsimp only [go_sem,gS,f2]
  refine yI (fun b3 f3=>?_)
  simp only [zN,zU] at f3
  simp -dsimp only [go_sem,gS,f2,f3,decide_true]
  refine hta _ _ ?_
  simp -dsimp only [go_sem,gS,f2,f3]
  refine htb _ _ ?_
  simp -dsimp only [go_sem,gS,f2,f3]
  refine zBG xs (by omega) hsx _ _ ?_
  simp -dsimp only [go_sem,gS,f2,f3,decide_true]
  refine yP (X:=Nat) (fun j=>[(2,.ref b2 0),(3,.ref b3 0),(53,.d (.int .i64 gs.length)),(54,.d (.int .i64 j))]) (fun j G=>G=hp H [(b2,.var [.d (.int .i64 k),.d (.int .i64 k1),.d (.str n1),.d (.int .i64 i1),.d (.slice (Tm.ds xs1)),.d (.int .i64 k2),.d (.str n2),.d (.int .i64 i2),.d (.slice (Tm.ds xs2)),.d (.str n),.d (.slice (xs.map Tm.d)),.d (.slice (gs.map Gl.d))]),(b3,.var [.d (.int .i64 k),.d (.int .i64 k1),.d (.str n1),.d (.int .i64 i1),.d (.slice (Tm.ds xs1)),.d (.int .i64 k2),.d (.str n2),.d (.int .i64 i2),.d (.slice (Tm.ds xs2)),.d (.str n),.d (.slice (xs.map Tm.d)),.d (.slice (gs.map Gl.d))])]∧j≤gs.length) (fun j=>gs.length - j) 0 _ ⟨rfl,Nat.zero_le _⟩ (by simp -dsimp only [go_sem,gS]) (yM (by simp only [hpS,eq_self,implies_true,f2,f3]) (by simp only [hpS,eq_self,implies_true,f2,f3])) ?_
  rintro j G ⟨hG,hj⟩
  subst hG
  simp -dsimp only [go_sem,gS]
  refine zD (fun q1=>?_) (fun q1=>?_)
  ·have q1':j < gs.length:=by have:=of_decide_eq_true q1; omega
   obtain ⟨g,hx⟩:=zBc q1'
   have hw:=qT (k:=j) (by omega)
   have hgm:=Gl.nodess_mem (List.mem_of_getElem? hx)
   have hg:=fun H=>zCv (eb:=eb) m g (by omega) (Gl.smalls_mem hsg g (List.mem_of_getElem? hx)) H
   obtain ⟨gk,⟨g1,m1,j1,y1⟩,⟨g2,m2,j2,y2⟩,gn,gxs,ggs⟩:=g
   simp -dsimp only [go_sem,gS,q1,hx,f2,f3,Gl.d,Gl.cs,Tm.cs,List.cons_append,List.nil_append]
   refine hg _ _ ?_
   simp -dsimp only [go_sem,gS,f2,f3,hw]
   refine zP (j+1) _ ⟨rfl,q1'⟩ (by omega) (by simp -dsimp only [go_sem,gS]) (yM (by simp only [hpS,eq_self,implies_true,f2,f3]) (by simp only [hpS,eq_self,implies_true,f2,f3]))
  ·simp -dsimp only [go_sem,gS,q1,f2,f3]
   exact zB (G:=H) (vQ (by simp only [hpS,eq_self,implies_true,f2,f3])) (zC hK)
set_option maxHeartbeats 8000000 in
theorem zGo {eb:EbG} (it:It) (hs:it.small) (H:Heap) (K:A→Heap→Prop) (hK:K (.d (.bool true)) H):ACall Tryz.prog (zK eb) 34 [.d it.d,.d it.d] H K:=by
 obtain ⟨x1,x2,x3,x4,x5,x6,x7,x8,x9,x10,x11,x12,hbody,hd⟩:=it.opn
 have hgd:it.body.d=.agg [x1,x2,x3,x4,x5,x6,x7,x8,x9,x10,x11,x12]:=by rw [Gl.d,hbody]
 have hgs:=fun H=>zCv (eb:=eb) _ it.body (Nat.le_refl _) hs.body H
 rw [hgd] at hgs
 have hvl:=hs.vars
 have hcl:=hs.nct
 have hwl:=hs.ways
 have htl:=hs.types
 have hal:=hs.args
 rw [hd]
 refine ACall.hp_start ?_
 refine ACall.by mixed fn34 (by simp) ?_
 conv in s34=>cbv
 refine zG ?_
 simp -dsimp only [go_sem,gS]
 refine yI (fun b2 f2=>?_)
 simp only [zN,zU] at f2
 simp -dsimp only [go_sem,gS,f2]
 refine yI (fun b3 f3=>?_)
 simp only [zN,zU] at f3
 simp -dsimp only [go_sem,gS,f2,f3,decide_true]
 refine zBH it.types (by omega) htl.2 _ _ ?_
 simp -dsimp only [go_sem,gS,f2,f3]
 refine zBG it.args (by omega) hal.2 _ _ ?_
 simp -dsimp only [go_sem,gS,f2,f3]
 refine hgs _ _ ?_
 simp -dsimp only [go_sem,gS,f2,f3]
 refine yP (X:=Nat) (fun j=>[(2,.ref b2 0),(3,.ref b3 0),(80,.d (.int .i64 it.vars.length)),(81,.d (.int .i64 j))]) (fun j G=>G=hp H [(b2,.var [.d (.int .i64 it.kind),.d (.str it.name),.d (.slice (it.vars.map .str)),.d (.slice (it.ctors.map Ct.d)),.d (.slice (it.types.map Ty.d)),.d (.slice (it.ways.map .bool)),.d (.int .i64 it.det),.d (.slice (it.args.map Tm.d)),.d x1,.d x2,.d x3,.d x4,.d x5,.d x6,.d x7,.d x8,.d x9,.d x10,.d x11,.d x12]),(b3,.var [.d (.int .i64 it.kind),.d (.str it.name),.d (.slice (it.vars.map .str)),.d (.slice (it.ctors.map Ct.d)),.d (.slice (it.types.map Ty.d)),.d (.slice (it.ways.map .bool)),.d (.int .i64 it.det),.d (.slice (it.args.map Tm.d)),.d x1,.d x2,.d x3,.d x4,.d x5,.d x6,.d x7,.d x8,.d x9,.d x10,.d x11,.d x12])]∧j≤it.vars.length) (fun j=>it.vars.length - j) 0 _ ⟨rfl,Nat.zero_le _⟩ (by simp -dsimp only [go_sem,gS]) (yM (by simp only [hpS,eq_self,implies_true,f2,f3]) (by simp only [hpS,eq_self,implies_true,f2,f3])) ?_
 rintro j G ⟨hG,hj⟩
 subst hG
 simp -dsimp only [go_sem,gS]
 refine zD (fun q1=>?_) (fun q1=>?_)
 ·have q1':j < it.vars.length:=by have:=of_decide_eq_true q1; omega
  obtain ⟨u,hx⟩:=zBc q1'
  have hw:=qT (k:=j) (by omega)
  simp -dsimp only [go_sem,gS,q1,hx,f2,f3,decide_true,hw]
  refine zP (j+1) _ ⟨rfl,q1'⟩ (by omega) (by simp -dsimp only [go_sem,gS]) (yM (by simp only [hpS,eq_self,implies_true,f2,f3]) (by simp only [hpS,eq_self,implies_true,f2,f3]))
 simp -dsimp only [go_sem,gS,q1,f2,f3]
 clear hj q1
 refine yP (X:=Nat) (fun j=>[(2,.ref b2 0),(3,.ref b3 0),(98,.d (.int .i64 it.ways.length)),(99,.d (.int .i64 j))]) (fun j G=>G=hp H [(b2,.var [.d (.int .i64 it.kind),.d (.str it.name),.d (.slice (it.vars.map .str)),.d (.slice (it.ctors.map Ct.d)),.d (.slice (it.types.map Ty.d)),.d (.slice (it.ways.map .bool)),.d (.int .i64 it.det),.d (.slice (it.args.map Tm.d)),.d x1,.d x2,.d x3,.d x4,.d x5,.d x6,.d x7,.d x8,.d x9,.d x10,.d x11,.d x12]),(b3,.var [.d (.int .i64 it.kind),.d (.str it.name),.d (.slice (it.vars.map .str)),.d (.slice (it.ctors.map Ct.d)),.d (.slice (it.types.map Ty.d)),.d (.slice (it.ways.map .bool)),.d (.int .i64 it.det),.d (.slice (it.args.map Tm.d)),.d x1,.d x2,.d x3,.d x4,.d x5,.d x6,.d x7,.d x8,.d x9,.d x10,.d x11,.d x12])]∧j≤it.ways.length) (fun j=>it.ways.length - j) 0 _ ⟨rfl,Nat.zero_le _⟩ (by simp -dsimp only [go_sem,gS]) (yM (by simp only [hpS,eq_self,implies_true,f2,f3]) (by simp only [hpS,eq_self,implies_true,f2,f3])) ?_
 rintro j G ⟨hG,hj⟩
 subst hG
 simp -dsimp only [go_sem,gS]
 refine zD (fun q1=>?_) (fun q1=>?_)
 ·have q1':j < it.ways.length:=by have:=of_decide_eq_true q1; omega
  obtain ⟨u,hx⟩:=zBc q1'
  have hw:=qT (k:=j) (by omega)
  simp -dsimp only [go_sem,gS,q1,hx,f2,f3,beq_self_eq_true,hw]
  refine zP (j+1) _ ⟨rfl,q1'⟩ (by omega) (by simp -dsimp only [go_sem,gS]) (yM (by simp only [hpS,eq_self,implies_true,f2,f3]) (by simp only [hpS,eq_self,implies_true,f2,f3]))
 simp -dsimp only [go_sem,gS,q1,f2,f3]
 clear hj q1
 refine yP (X:=Nat) (fun j=>[(2,.ref b2 0),(3,.ref b3 0),(116,.d (.int .i64 it.ctors.length)),(117,.d (.int .i64 j))]) (fun j G=>G=hp H [(b2,.var [.d (.int .i64 it.kind),.d (.str it.name),.d (.slice (it.vars.map .str)),.d (.slice (it.ctors.map Ct.d)),.d (.slice (it.types.map Ty.d)),.d (.slice (it.ways.map .bool)),.d (.int .i64 it.det),.d (.slice (it.args.map Tm.d)),.d x1,.d x2,.d x3,.d x4,.d x5,.d x6,.d x7,.d x8,.d x9,.d x10,.d x11,.d x12]),(b3,.var [.d (.int .i64 it.kind),.d (.str it.name),.d (.slice (it.vars.map .str)),.d (.slice (it.ctors.map Ct.d)),.d (.slice (it.types.map Ty.d)),.d (.slice (it.ways.map .bool)),.d (.int .i64 it.det),.d (.slice (it.args.map Tm.d)),.d x1,.d x2,.d x3,.d x4,.d x5,.d x6,.d x7,.d x8,.d x9,.d x10,.d x11,.d x12])]∧j≤it.ctors.length) (fun j=>it.ctors.length - j) 0 _ ⟨rfl,Nat.zero_le _⟩ (by simp -dsimp only [go_sem,gS]) (yM (by simp only [hpS,eq_self,implies_true,f2,f3]) (by simp only [hpS,eq_self,implies_true,f2,f3])) ?_
 rintro j G ⟨hG,hj⟩
 subst hG
 simp -dsimp only [go_sem,gS]
 refine zD (fun q1=>?_) (fun q1=>?_)
 ·have q1':j < it.ctors.length:=by have:=of_decide_eq_true q1; omega
  obtain ⟨u,hx⟩:=zBc q1'
  have hw:=qT (k:=j) (by omega)
  have hc:=hs.ctors u (List.mem_of_getElem? hx)
  obtain ⟨cn,ca⟩:=u
  simp -dsimp only [go_sem,gS,q1,hx,f2,f3,Ct.d,Ct.cs,decide_true]
  refine zBH ca (by have:=hc.1; simp only at this; omega) hc.2 _ _ ?_
  simp -dsimp only [go_sem,gS,f2,f3,hw]
  refine zP (j+1) _ ⟨rfl,q1'⟩ (by omega) (by simp -dsimp only [go_sem,gS]) (yM (by simp only [hpS,eq_self,implies_true,f2,f3]) (by simp only [hpS,eq_self,implies_true,f2,f3]))
 simp -dsimp only [go_sem,gS,q1,f2,f3]
 exact zB (G:=H) (vQ (by simp only [hpS,eq_self,implies_true,f2,f3])) (zC hK)
theorem zFf {eb:EbG} (ts:List It) (hl:ts.length≤1048576) (h:∀ t ∈ ts,t.small) (H:Heap) (K:A→Heap→Prop) (hK:K (.d (.bool true)) H) :
  ACall Tryz.prog (zK eb) 11 [.d (.slice (ts.map It.d)),.d (.slice (ts.map It.d))] H K:=by
 refine ACall.by mixed fn11 (by simp) ?_
 conv in s11=>cbv
 refine zG ?_
 simp -dsimp only [go_sem,gS,decide_true]
 refine yP (X:=Nat) (fun j=>[(0,.d (.slice (ts.map It.d))),(1,.d (.slice (ts.map It.d))),(12,.d (.int .i64 ts.length)),(13,.d (.int .i64 j))]) (fun j G=>G=H∧j≤ts.length) (fun j=>ts.length - j) 0 _ ⟨rfl,Nat.zero_le _⟩ (by simp -dsimp only [go_sem,gS]) (fun _ _ h=>h) ?_
 rintro j G ⟨hG,hj⟩
 subst hG
 simp -dsimp only [go_sem,gS]
 refine zD (fun q1=>?_) (fun q1=>?_)
 ·have q1':j < ts.length:=by have:=of_decide_eq_true q1; omega
  obtain ⟨t,hx⟩:=zBc q1'
  have hw:=qT (k:=j) (by omega)
  have ht:=fun H=>zGo (eb:=eb) t (h t (List.mem_of_getElem? hx)) H
  obtain ⟨x1,x2,x3,x4,x5,x6,x7,x8,x9,x10,x11,x12,hbody,hd⟩:=t.opn
  rw [hd] at ht
  simp -dsimp only [go_sem,gS,q1,hx,hd]
  refine ht _ _ ?_
  simp -dsimp only [go_sem,gS,hw]
  refine zP (j+1) _ ⟨rfl,q1'⟩ (by omega) (by simp -dsimp only [go_sem,gS]) (fun _ _ h=>h)
 ·simp -dsimp only [go_sem,gS,q1]
  exact zC hK
end Go.Aug
