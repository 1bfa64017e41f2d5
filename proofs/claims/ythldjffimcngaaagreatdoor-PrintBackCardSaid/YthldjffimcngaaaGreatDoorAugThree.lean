/- The abstract layer: abstract values and heaps, what code does to them, the conditions of its operations as equations; no conditions of its own. -/
import Derived.Test.YthldjffimcngaaaGreatDoorAugTwo
import Derived.Attr
set_option linter.all false
set_option linter.unusedVariables false
set_option linter.unusedSimpArgs false
set_option linter.unusedSectionVars false

/-
  The abstract layer, part T: the conditions of code, said so that they can be reckoned out step by step.
-/
set_option linter.unusedSimpArgs false
namespace Go.Aug
universe u v
def szs (sz:Nat) (ds:List D):Prop:=∀ d ∈ ds,d.cells.length=sz
@[go_sem] theorem zX5 {sz:Nat}:szs sz []=True:=by simp [szs]
@[go_sem] theorem zW4 {sz:Nat} {d:D} {ds:List D}:szs sz (d::ds)=(d.cells.length=sz∧szs sz ds):=by simp [szs]
@[go_sem] theorem zX4 {sz:Nat} {ds es:List D}:szs sz (ds++es)=(szs sz ds∧szs sz es):=by
  simp only [szs,List.mem_append,eq_iff_iff]
  exact ⟨fun h=>⟨fun d hd=>h d (.inl hd),fun d hd=>h d (.inr hd)⟩,fun h d hd=>hd.elim (h.1 d) (h.2 d)⟩
inductive Lk {α:Sort u} (a:α):Type where
  | mk
def hid {α:Sort u} (a:α) (_:Lk a):α:=a
@[go_sem] theorem zXG {α:Sort u} {β:Sort v} {f:α→β} {l:Lk f} {x:α}:hid f l x=f x:=Eq.trans rfl rfl
@[go_sem] theorem zO1 {x y:Prop} {l:Lk x}:gif true (hid x l) y=x:=zM2
@[go_sem] theorem zM1 {x y:Prop} {l:Lk y}:gif false x (hid y l)=y:=zKG
theorem zD {b:Bool} {x y:Prop} {l:Lk x} {l':Lk y} (h1:b=true→x) (h2:b=false→y):gif b (hid x l) (hid y l'):=zKH h1 h2
def cnd {α:Type} (b:Bool) (x y:α):α:=if b=true then x else y
@[go_sem] theorem zDx {α:Type} {x y:α}:cnd true x y=x:=Eq.trans rfl rfl
@[go_sem] theorem zB9 {α:Type} {x y:α} {l:Lk y}:cnd false x (hid y l)=y:=Eq.trans rfl rfl
def zR {α:Type} (o:Option α) (K:α→Prop):Prop:=match o with
  | some x=>K x
  | none=>False
@[go_sem] theorem zQh {α:Type} {x:α} {K:α→Prop}:zR (some x) K=K x:=Eq.trans rfl rfl
def letA {α:Type} (x:α) (K:α→Prop):Prop:=K x
@[go_sem] theorem zXR {α:Type} {x:α} {K:α→Prop}:letA x K=K x:=Eq.trans rfl rfl
def wN (o:Option AObj) (K:List A→Prop):Prop:=match o with
  | some (.var cs)=>K cs
  | _=>False
@[go_sem] theorem zTZ {cs:List A} {K:List A→Prop}:wN (some (.var cs)) K=K cs:=Eq.trans rfl rfl
def xX (o:Option AObj) (v:Value) (K:TypeId→Nat→List D→Prop) (L:List D→Prop):Prop:=match o with
  | some (.arr E sz v' ds)=>v'=v∧K E sz ds
  | some (.frz v' ds)=>v'=v∧L ds
  | _=>False
@[go_sem] theorem zTU {E:TypeId} {sz:Nat} {v:Value} {ds:List D} {K:TypeId→Nat→List D→Prop} {L:List D→Prop}:xX (some (.arr E sz v ds)) v K L=K E sz ds:=by simp [hid,szs,xX]
def xE (x:A) (K:Bool→Prop):Prop:=match x with
  | .d (.bool b)=>K b
  | _=>False
@[go_sem] theorem zQf {b:Bool} {K:Bool→Prop}:xE (.d (.bool b)) K=K b:=Eq.trans rfl rfl
def xR (x:A) (K:Int→Prop):Prop:=intA x K
@[go_sem] theorem zTX {k:IntKind} {n:Int} {K:Int→Prop}:xR (.d (.int k n)) K=K n:=Eq.trans rfl rfl
def wR (x:A) (K:List A→Prop):Prop:=match x with
  | .tup vs=>K vs
  | _=>False
@[go_sem] theorem zTY {vs:List A} {K:List A→Prop}:wR (.tup vs) K=K vs:=Eq.trans rfl rfl
def andK (p:Prop) (q:Prop):Prop:=p∧q
@[go_sem] theorem zSH {q:Prop} {l:Lk q}:andK True (hid q l)=q:=by simp [hid,szs,andK,hid]
theorem zA {p q:Prop} {l:Lk q} (h:p) (k:q):andK p (hid q l):=⟨h,k⟩
def pick (F:Nat→A):List Nat→List (Nat×A)
  | []=>[]
  | s::l=>(s,F s)::pick F l
@[go_sem] theorem zVQ {F:Nat→A}:pick F []=[]:=Eq.trans rfl rfl
@[go_sem] theorem zT2 {F:Nat→A} {s:Nat} {l:List Nat}:pick F (s::l)=(s,F s)::pick F l:=Eq.trans rfl rfl
theorem zCN (F:Nat→A):∀ l,zKN F l=mkF (pick F l)
  | []=>rfl
  | s::l=>by
    funext i
    simp only [hid,szs,zKN,updF,pick,mkF,zCN F l]
@[go_sem] theorem zVL {s:Nat} {x:A} {l:List (Nat×A)} {i:Nat}:mkF ((s,x)::l) i=cnd (i == s) x (hid (mkF l i) ⟨⟩):=by simp [hid,szs,mkF,cnd,hid]
@[go_sem] theorem zJi {l:List (Nat×A)} {s:Nat} {x:A}:updF (mkF l) s x=mkF ((s,x)::l):=Eq.trans rfl rfl
@[go_sem] theorem zUu {F:Nat→A} {s:Nat} {x:A}:putF F (some s) x=updF F s x:=Eq.trans rfl rfl
@[go_sem] theorem zUt {F:Nat→A} {x:A}:putF F none x=F:=Eq.trans rfl rfl
section
variable {P:Program} {V:Env} {N:Nat} {F:Nat→A} {H:Heap} {Q:Post} {K:A→Heap→Prop} {KF:(Nat→A)→Heap→Prop} {KP:Value→Heap→Prop}
@[go_sem] theorem zW3:svc P V N .skip Q F H=Q .normal F H:=Eq.trans rfl rfl
@[go_sem] theorem zX1 {k:List Nat} {ops:List SOper}:svc P V N (.reg (some k) ops) Q F H=letA (pick F k) (hid (fun l=>sops P V N ops (mkF l) H (hid (fun F H=>Q .normal F H) ⟨⟩) (hid (panQ Q (zEj (mkF l) (ops.map (·.dst)))) ⟨⟩)) ⟨⟩):=by
  simp only [hid,szs,svc,letA,zGX,zCN]
@[go_sem] theorem zW1 {k:List Nat} {p:zE7}:svc P V N (.dreg (some k) p) Q F H=letA (pick F k) (hid (fun l=>xQ P V N p (mkF l) H (hid (fun F H=>Q .normal F H) ⟨⟩) (hid (panQ Q fun _=>.undef) ⟨⟩)) ⟨⟩):=by
  simp only [hid,szs,svc,letA,zGX,zCN]
@[go_sem] theorem zX3 {x y:SCode}:svc P V N (.seq x y) Q F H=svc P V N x (wD (hid (fun F H=>svc P V N y Q F H) ⟨⟩) Q) F H:=Eq.trans rfl rfl
@[go_sem] theorem zW0 {c:Operand} {x y:SCode}:svc P V N (.cond c x y) Q F H=xE (ev V N F c) (hid (fun b=>gif b (hid (svc P V N x Q F H) ⟨⟩) (hid (svc P V N y Q F H) ⟨⟩)) ⟨⟩):=by
  simp only [hid,szs,svc,xE]
  generalize ev V N F c=u
  rcases u with _ | x | _ | _ | _ | _ | _ | _ | _ | _ | _ <;> rfl
@[go_sem] theorem zVf {id:Nat} {c:SCode}:svc P V N (.block id c) Q F H=svc P V N c (zW id Q) F H:=Eq.trans rfl rfl
@[go_sem] theorem zW2 {id:Nat}:svc P V N (.exit id) Q F H=Q (.exit id) F H:=Eq.trans rfl rfl
@[go_sem] theorem zX2:svc P V N .ret Q F H=Q .ret F H:=Eq.trans rfl rfl
@[go_sem] theorem zPk:wD KF Q .normal F H=KF F H:=Eq.trans rfl rfl
@[go_sem] theorem zVg:wD KF Q .ret F H=Q .ret F H:=Eq.trans rfl rfl
@[go_sem] theorem zSl {id:Nat}:wD KF Q (.exit id) F H=Q (.exit id) F H:=Eq.trans rfl rfl
@[go_sem] theorem zKL {id:Nat}:zW id Q .normal F H=Q .normal F H:=Eq.trans rfl rfl
@[go_sem] theorem zO3 {id:Nat}:zW id Q .ret F H=Q .ret F H:=Eq.trans rfl rfl
@[go_sem] theorem zM4 {id:Nat}:zW id Q (.exit id) F H=Q .normal F H:=by simp [hid,szs,zW]
@[go_sem] theorem zL4 {id id':Nat} (h:(id' == id)=false):zW id Q (.exit id') F H=Q (.exit id') F H:=by
  have:id'≠id:=by simpa using h
  simp [hid,szs,zW,this]
@[go_sem] theorem zWZ {rs:List ResultVar}:sret P V N rs K .ret F H=zR (vJ P V N F H rs) (hid (fun l=>letA (jL l) (hid (fun r=>retW V r H K) ⟨⟩)) ⟨⟩):=by
  simp only [hid,szs,sret,zR,letA]; cases vJ P V N F H rs <;> rfl
@[go_sem] theorem zQ7 {rs:List ResultVar}:sret P V N rs K .normal F H=zR (vJ P V N F H rs) (hid (fun l=>letA (jL l) (hid (fun r=>retW V r H K) ⟨⟩)) ⟨⟩):=by
  simp only [hid,szs,sret,zR,letA]; cases vJ P V N F H rs <;> rfl
@[go_sem] theorem zVc {rs:List ResultVar}:zJ8 P V N rs K KP .ret F H=zR (vJ P V N F H rs) (hid (fun l=>letA (jL l) (hid (fun r=>retW V r H K) ⟨⟩)) ⟨⟩):=by
  simp only [hid,szs,zJ8,zR,letA]; cases vJ P V N F H rs <;> rfl
@[go_sem] theorem zPj {rs:List ResultVar}:zJ8 P V N rs K KP .normal F H=zR (vJ P V N F H rs) (hid (fun l=>letA (jL l) (hid (fun r=>retW V r H K) ⟨⟩)) ⟨⟩):=by
  simp only [hid,szs,zJ8,zR,letA]; cases vJ P V N F H rs <;> rfl
@[go_sem] theorem zQ6 {rs:List ResultVar} {v:Value}:zJ8 P V N rs K KP (.panic [{ v,recovered:=false }]) F H=panW V H (KP v):=Eq.trans rfl rfl
@[go_sem] theorem zRa {ch:List PanicEntry}:wD KF Q (.panic ch) F H=Q (.panic ch) F H:=Eq.trans rfl rfl
@[go_sem] theorem zL5 {id:Nat} {ch:List PanicEntry}:zW id Q (.panic ch) F H=Q (.panic ch) F H:=Eq.trans rfl rfl
@[go_sem] theorem zVI {v:Value} {M:Nat→A} {l:Lk (panQ Q M)}:hid (panQ Q M) l v H=Q (.panic [{ v,recovered:=false }]) M H:=Eq.trans rfl rfl
@[go_sem] theorem zSm {x:A}:jL [x]=x:=Eq.trans rfl rfl
@[go_sem] theorem zRd:jL []=.tup []:=Eq.trans rfl rfl
@[go_sem] theorem zRc {x y:A} {l:List A}:jL (x::y::l)=.tup (x::y::l):=Eq.trans rfl rfl
@[go_sem] theorem zSf:vJ P V N F H []=some []:=Eq.trans rfl rfl
def zS1 {α:Type}:Option α→Option (List α)→Option (List α)
  | some x,some l=>some (x::l)
  | _,_=>none
@[go_sem] theorem zRG {α:Type} {x:α} {l:List α}:zS1 (some x) (some l)=some (x::l):=Eq.trans rfl rfl
@[go_sem] theorem zQS {r:ResultVar} {rs:List ResultVar}:vJ P V N F H (r::rs)=zS1 (zGe P V N F H r) (vJ P V N F H rs):=by
  simp only [hid,szs,vJ]; cases zGe P V N F H r <;> cases vJ P V N F H rs <;> rfl
@[go_sem] theorem zU3 {t:Nat}:zGe P V N F H (.tmp t)=some (ev V N F (.tmp t)):=Eq.trans rfl rfl
@[go_sem] theorem zWX:sops P V N [] F H KF KP=KF F H:=Eq.trans rfl rfl
@[go_sem] theorem zVa {o:SOper} {rest:List SOper}:sops P V N (o::rest) F H KF KP =
    yT N F o (hid (aopO P V N o.op F H (hid (fun x H'=>sops P V N rest (putF F o.dst x) H' KF KP) ⟨⟩) KP) ⟨⟩) (hid (sops P V N rest (putF F o.dst (.tup [])) H KF KP) ⟨⟩):=Eq.trans rfl rfl
@[go_sem] theorem zSk:xQ P V N .done F H KF KP=KF F H:=Eq.trans rfl rfl
@[go_sem] theorem zWT {o:SOper} {rest:zE7}:xQ P V N (.fl o rest) F H KF KP =
    yT N F o (hid (aopO P V N o.op F H (hid (fun x H'=>xQ P V N rest (putF F o.dst x) H' KF KP) ⟨⟩) KP) ⟨⟩) (hid (xQ P V N rest (putF F o.dst (.tup [])) H KF KP) ⟨⟩):=Eq.trans rfl rfl
@[go_sem] theorem zU8 {o:SOper} {chk:List SOper} {rest:zE7}:xQ P V N (.eff o chk rest) F H KF KP =
    yT N F o (hid (aopO P V N o.op F H (hid (fun x H'=>yX P V N (putF F o.dst x) H' chk∧xQ P V N rest (putF F o.dst x) H' KF KP) ⟨⟩) KP) ⟨⟩) (hid (xQ P V N rest (putF F o.dst (.tup [])) H KF KP) ⟨⟩):=Eq.trans rfl rfl
@[go_sem] theorem zSj {p q:zE7}:xQ P V N (.both p q) F H KF KP=(xQ P V N p F H KF KP∧xQ P V N q F H KF KP):=Eq.trans rfl rfl
def sgd (d:Bool) (x:A) (want:Bool) (yes no:Prop):Prop:=if d=true then match x with
    | .d (.bool b)=>match want with
      | true=>gif b yes no
      | false=>gif b no yes
    | .tup []=>no
    | _=>False
  else False
@[go_sem] theorem zWV {want:Bool} {yes no:Prop} {l:Lk no}:sgd true (.tup []) want yes (hid no l)=no:=Eq.trans rfl rfl
@[go_sem] theorem zWW {b:Bool} {yes no:Prop}:sgd true (.d (.bool b)) true yes no=gif b yes no:=Eq.trans rfl rfl
@[go_sem] theorem zU9 {b:Bool} {yes no:Prop}:sgd true (.d (.bool b)) false yes no=gif b no yes:=Eq.trans rfl rfl
@[go_sem] theorem zQ4 {dst:Option Tmp} {op:Op} {yes no:Prop} {l:Lk yes}:yT N F { dst:=dst,gd:=none,op:=op } (hid yes l) no=yes:=Eq.trans rfl rfl
@[go_sem] theorem zQ5 {dst:Option Tmp} {op:Op} {d:Nat} {want:Bool} {yes no:Prop}:yT N F { dst:=dst,gd:=some (some d,want),op:=op } yes no=sgd (decide (d < N)) (F d) want yes no:=by
  simp only [hid,szs,yT,sgd,xE,decide_eq_true_eq]
  generalize F d=u
  cases u <;> first | rfl | (rename_i l; cases l <;> rfl)
@[go_sem] theorem zYc {t:Nat}:ev V N F (.tmp t)=cnd (decide (t < N)) (F t) .undef:=by simp [hid,szs,ev,cnd]
@[go_sem] theorem zVE {v:Value}:ev V N F (.const v)=zCa v:=Eq.trans rfl rfl
@[go_sem] theorem zXf {f:FuncId}:ev V N F (.func f)=.func f []:=Eq.trans rfl rfl
def zTf:Option D→A
  | some x=>.imm [x]
  | none=>.undef
@[go_sem] theorem zTb {g:Nat}:ev V N F (.global g)=zTf (V.G g):=by simp only [hid,szs,ev]; cases V.G g <;> rfl
@[go_sem] theorem zRM {x:D}:zTf (some x)=.imm [x]:=Eq.trans rfl rfl
@[go_sem] theorem zRH {k:IntKind} {n:Int}:zCa (.int k n)=.d (.int k n):=Eq.trans rfl rfl
@[go_sem] theorem zPH {b:Bool}:zCa (.bool b)=.d (.bool b):=Eq.trans rfl rfl
@[go_sem] theorem zMN {s:ByteArray}:zCa (.string s)=.d (.str s):=Eq.trans rfl rfl
@[go_sem] theorem zOX:zCa (.slice none 0 0)=.nils:=Eq.trans rfl rfl
@[go_sem] theorem zOW:zCa .nilIface=.d (.raw .nilIface):=Eq.trans rfl rfl
def zPI (b:Bool) (p q:Prop):Prop:=match b with
  | true=>p
  | false=>q
@[go_sem] theorem zPJ {p q:Prop} {l:Lk q}:zPI false p (hid q l)=q:=Eq.trans rfl rfl
@[go_sem] theorem zSK {x:Operand}:aopO P V N (.move x) F H K KP=letA (ev V N F x) (hid (fun y=>K y H) ⟨⟩):=Eq.trans rfl rfl
@[go_sem] theorem zPz {x:Operand}:aopO P V N (.assign x) F H K KP=letA (ev V N F x) (hid (fun y=>K y H) ⟨⟩):=Eq.trans rfl rfl
@[go_sem] theorem zSL {c x y:Operand}:aopO P V N (.pick c x y) F H K KP=xE (ev V N F c) (hid (fun b=>gif b (hid (letA (ev V N F x) (hid (fun z=>K z H) ⟨⟩)) ⟨⟩) (hid (letA (ev V N F y) (hid (fun z=>K z H) ⟨⟩)) ⟨⟩)) ⟨⟩):=by
  simp only [hid,szs,aopO,xE,letA,gif]
  generalize ev V N F c=u
  rcases u with _ | x | _ | _ | _ | _ | _ | _ | _ | _ | _ <;> rfl
@[go_sem] theorem zSJ {t:TypeId} {x:Operand}:aopO P V N (.load t x) F H K KP=letA (ev V N F x) (hid (fun x=>xT P t x H (hid (fun y=>K y H) ⟨⟩)) ⟨⟩):=Eq.trans rfl rfl
@[go_sem] theorem zRA {t:TypeId} {x y:Operand}:aopO P V N (.store t x y) F H K KP=letA (ev V N F x) (hid (fun x=>letA (ev V N F y) (hid (fun y=>yU P t x y H (hid (fun H=>K .undef H) ⟨⟩)) ⟨⟩)) ⟨⟩):=Eq.trans rfl rfl
@[go_sem] theorem zL1 {t:TypeId} {x:Operand} {f:Nat}:aopO P V N (.fieldAddr t x f) F H K KP=letA (ev V N F x) (hid (fun x=>yV P t x f (hid (fun y=>K y H) ⟨⟩)) ⟨⟩):=Eq.trans rfl rfl
@[go_sem] theorem zRw {t:TypeId} {x:Operand} {f:Nat}:aopO P V N (.field t x f) F H K KP=letA (ev V N F x) (hid (fun x=>zX P t x f (hid (fun y=>K y H) ⟨⟩)) ⟨⟩):=Eq.trans rfl rfl
@[go_sem] theorem zRu {op:BinOp} {t t':TypeId} {x y:Operand}:aopO P V N (.binOp op t x y t') F H K KP=letA (ev V N F x) (hid (fun u=>letA (ev V N F y) (hid (fun v=>aBin P V op t (jC x || jC y) u v (hid (fun z=>letA z (hid (fun z=>K z H) ⟨⟩)) ⟨⟩)) ⟨⟩)) ⟨⟩):=Eq.trans rfl rfl
@[go_sem] theorem zSM {op:UnOp} {t:TypeId} {x:Operand}:aopO P V N (.unOp op t x) F H K KP=letA (ev V N F x) (hid (fun u=>aUn op u (hid (fun z=>letA z (hid (fun z=>K z H) ⟨⟩)) ⟨⟩)) ⟨⟩):=Eq.trans rfl rfl
def nilC (x:A) (K:A→Prop):Prop:=match x with
  | .ref .. | .imm _ | .eref .. | .func .. => K x
  | _=>False
@[go_sem] theorem zVM {b o:Nat} {K:A→Prop}:nilC (.ref b o) K=K (.ref b o):=Eq.trans rfl rfl
@[go_sem] theorem zMG {x:Operand}:aopO P V N (.nilCheck x) F H K KP=letA (ev V N F x) (hid (fun u=>nilC u (hid (fun u=>K u H) ⟨⟩)) ⟨⟩):=by
  simp only [hid,szs,aopO,letA]
  generalize ev V N F x=u
  cases u <;> rfl
@[go_sem] theorem zRt {t:TypeId}:aopO P V N (.alloc t) F H K KP=zR (uV P t) (hid (fun cs=>newK H (hid (fun b=>K (.ref b 0) (upd H b (.var cs))) ⟨⟩)) ⟨⟩):=by
  simp only [hid,szs,aopO,zIt]; cases uV P t <;> rfl
@[go_sem] theorem zVD {t:TypeId} {x:Operand}:aopO P V N (.box t x) F H K KP=letA (ev V N F x) (hid (fun u=>andK (u.good=true) (hid (letA u.cells (hid (fun cs=>newK H (hid (fun b=>K (.ref b 0) (upd H b (.var cs))) ⟨⟩)) ⟨⟩)) ⟨⟩)) ⟨⟩):=Eq.trans rfl rfl
@[go_sem] theorem zOV {x:Operand} {i:Nat}:aopO P V N (.extract x i) F H K KP=wR (ev V N F x) (hid (fun vs=>zR vs[i]? (hid (fun y=>K y H) ⟨⟩)) ⟨⟩):=by
  simp only [hid,szs,aopO,wR]
  generalize ev V N F x=u
  cases u <;> try rfl
  rename_i vs
  simp only
  generalize vs[i]?=z
  cases z <;> rfl
@[go_sem] theorem zOU {s d:TypeId} {x:Operand}:aopO P V N (.convert s d x) F H K KP=letA (ev V N F x) (hid (fun u=>zPI (zEQ P s d) (hid (zKk u H K) ⟨⟩) (hid (wK P s d u H (hid (fun y=>letA y (hid (fun y=>K y H) ⟨⟩)) ⟨⟩)) ⟨⟩)) ⟨⟩):=by
  simp only [hid,aopO,letA,zPI]
  cases zEQ P s d <;> rfl
@[go_sem] theorem zMF {f:FuncId} {x:Operand}:aopO P V N (.makeFunc (.func f) #[x] #[]) F H K KP=letA (ev V N F x) (hid (fun y=>K (.meth f [y]) H) ⟨⟩):=by simp [hid,aopO,letA]
@[go_sem] theorem zME {f:FuncId} {caps:Array Operand}:aopO P V N (.makeFunc (.func f) #[] caps) F H K KP=letA (caps.toList.map (ev V N F)) (hid (fun l=>K (.func f l) H) ⟨⟩):=by
  simp [hid,szs,aopO,letA]
@[go_sem] theorem zL3 {t:TypeId} {l c:Operand}:aopO P V N (.makeSlice t l c) F H K KP=letA (ev V N F l) (hid (fun l=>letA (ev V N F c) (hid (fun c=>zM P t l c H K) ⟨⟩)) ⟨⟩):=Eq.trans rfl rfl
@[go_sem] theorem zRz {t:TypeId} {x:Operand} {lo hi:Option Operand}:aopO P V N (.slice t x lo hi none) F H K KP =
    letA (ev V N F x) (hid (fun x=>letA (lo.map (ev V N F)) (hid (fun lo=>letA (hi.map (ev V N F)) (hid (fun hi=>xC P t x lo hi H (hid (fun y H=>letA y (hid (fun y=>K y H) ⟨⟩)) ⟨⟩)) ⟨⟩)) ⟨⟩)) ⟨⟩):=Eq.trans rfl rfl
@[go_sem] theorem zL2 {t:TypeId} {x i:Operand}:aopO P V N (.indexAddr t x i) F H K KP=letA (ev V N F x) (hid (fun x=>letA (ev V N F i) (hid (fun i=>zL P t x i H (hid (fun y=>K y H) ⟨⟩)) ⟨⟩)) ⟨⟩):=Eq.trans rfl rfl
@[go_sem] theorem zRx {t:TypeId} {x i:Operand}:aopO P V N (.index t x i) F H K KP=letA (ev V N F x) (hid (fun x=>letA (ev V N F i) (hid (fun i=>yW P t x i (hid (fun y=>K y H) ⟨⟩)) ⟨⟩)) ⟨⟩):=Eq.trans rfl rfl
@[go_sem] theorem zRv {t:TypeId} {parts:Array (Nat×Operand)}:aopO P V N (.build t parts) F H K KP=letA (parts.toList.map (hid (fun p=>(p.1,ev V N F p.2)) ⟨⟩)) (hid (fun l=>yZ P t l (hid (fun y=>letA (zJI (V.nz t) y) (hid (fun y=>K y H) ⟨⟩)) ⟨⟩)) ⟨⟩):=Eq.trans rfl rfl
@[go_sem] theorem zQe {y:A}:zJI false y=y:=by cases y <;> rfl
@[go_sem] theorem zXS {b:Bool} {x:D}:zJI b (.d x)=.d x:=by cases b <;> rfl
@[go_sem] theorem zKq {t:TypeId} {n:Nat} {parts:Array (Nat×Operand)}:aopO P V N (.buildSlice t n parts) F H K KP=letA (parts.toList.map (hid (fun p=>(p.1,ev V N F p.2)) ⟨⟩)) (hid (fun l=>zJ P t n l H K) ⟨⟩):=Eq.trans rfl rfl
@[go_sem] theorem zSI {c:Call}:aopO P V N (.call c) F H K KP=yE P V N F c H K KP:=Eq.trans rfl rfl
def zQg (x:A) (K:TypeId→Value→Prop):Prop:=match x with
  | .d (.raw (.iface t v))=>K t v
  | _=>False
@[go_sem] theorem zVP {t:TypeId} {v:Value} {K:TypeId→Value→Prop}:zQg (.d (.raw (.iface t v))) K=K t v:=Eq.trans rfl rfl
@[go_sem] theorem zRy {x:Operand}:aopO P V N (.panic x) F H K KP=zQg (ev V N F x) (hid (fun t v=>KP (.iface t v) H) ⟨⟩):=by
  simp only [hid,szs,aopO,zQg]
  generalize ev V N F x=u
  cases u with
  | d c=>cases c with
    | raw v=>cases v <;> rfl
    | _=>rfl
  | _=>rfl
@[go_sem] theorem zS0 {g:Nat}:conc V (.sent g)=some (V.E g):=Eq.trans rfl rfl
@[go_sem] theorem zTj {t:TypeId} {c:D}:zKK P V t (.d (.agg [c]))=(match ifcT P t with | true=>(conc V c).map fun v=>.iface t (.agg #[v]) | false=>none):=Eq.trans rfl rfl
@[go_sem] theorem zIx {t:TypeId} {x:Operand}:aopO P V N (.makeInterface t x) F H K KP=zR (zKK P V t (ev V N F x)) (hid (fun v=>K (.d (.raw v)) H) ⟨⟩):=by
  simp only [hid,szs,aopO,zR]
  generalize zKK P V t (ev V N F x)=u
  cases u <;> rfl
def onFn (x:A) (K:FuncId→List A→List A→Prop) (Y:Nat→Prop):Prop:=match x with
  | .func f caps=>K f [] caps
  | .meth f bs=>K f bs []
  | .yld l=>Y l
  | _=>False
@[go_sem] theorem zTV {f:FuncId} {caps:List A} {K:FuncId→List A→List A→Prop} {Y:Nat→Prop} {k:Lk K} {l:Lk Y}:onFn (.func f caps) (hid K k) (hid Y l)=K f [] caps:=Eq.trans rfl rfl
@[go_sem] theorem zTW {f:FuncId} {bs:List A} {K:FuncId→List A→List A→Prop} {Y:Nat→Prop} {k:Lk K} {l:Lk Y}:onFn (.meth f bs) (hid K k) (hid Y l)=K f bs []:=Eq.trans rfl rfl
def pnK (b:Bool) (x y:Prop):Prop:=match b with
  | false=>x
  | true=>y
@[go_sem] theorem zUs {x y:Prop} {k:Lk x} {l:Lk y}:pnK false (hid x k) (hid y l)=x:=Eq.trans rfl rfl
@[go_sem] theorem zVR {x y:Prop} {k:Lk y} {l:Lk x}:pnK true (hid x l) (hid y k)=y:=Eq.trans rfl rfl
@[go_sem] theorem zMz {f:Operand} {args:Array Operand} {ts:Array TypeId}:yE P V N F { callee:=.value f,args:=args,argTypes:=ts } H K KP =
    onFn (ev V N F f) (hid (fun g bs caps=>andK (zH P g=true) (hid (letA (bs++(args.toList.map (ev V N F)++caps)) (hid (fun l=>pnK (V.pan g) (hid (ACall P V g l H K) ⟨⟩) (hid (ACallP P V g l H K KP) ⟨⟩)) ⟨⟩)) ⟨⟩)) ⟨⟩)
      (hid (fun n=>letA (args.toList.map (ev V N F)) (hid (fun l=>ARound P V n l H K) ⟨⟩)) ⟨⟩):=by
  simp only [hid,szs,yE]
  generalize ev V N F f=u
  cases u with
  | func g caps=>simp only [onFn,pnK,letA,andK,List.nil_append]; cases V.pan g <;> rfl
  | meth g bs=>simp only [onFn,pnK,letA,andK,List.append_nil]; cases V.pan g <;> rfl
  | _=>rfl
@[go_sem] theorem zPs {x:Operand} {t:TypeId}:yE P V N F { callee:=.builtin .len,args:=#[x],argTypes:=#[t] } H K KP =
    letA (ev V N F x) (hid (fun x=>andK (lenable P t x=true) (hid (aLen x H (hid (fun y=>letA y (hid (fun y=>K y H) ⟨⟩)) ⟨⟩)) ⟨⟩)) ⟨⟩):=Eq.trans rfl rfl
@[go_sem] theorem zLX {x y:Operand} {t:TypeId}:yE P V N F { callee:=.builtin .append,args:=#[x,y],argTypes:=#[t,t] } H K KP =
    letA (ev V N F x) (hid (fun x=>letA (ev V N F y) (hid (fun y=>yF P t x y H K) ⟨⟩)) ⟨⟩):=by
  simp [hid,szs,yE,letA]
end
def zGV (P:Program) (t:TypeId):Bool:=match P.underlying t with
  | some .string=>true
  | _=>false
section
variable {P:Program} {V:Env} {H:Heap} {K:A→Prop} {KH:A→Heap→Prop}
@[go_sem] theorem zP5 {t:TypeId} {s:ByteArray}:lenable P t (.d (.str s))=zGV P t:=by
  unfold lenable zGV
  cases P.underlying t with
  | none=>rfl
  | some u=>cases u <;> rfl
@[go_sem] theorem zNc {t:TypeId} {s:List D}:lenable P t (.d (.slice s))=wH P t:=by
  unfold lenable wH
  cases P.underlying t with
  | none=>rfl
  | some u=>cases u <;> rfl
@[go_sem] theorem zDd {t:TypeId}:lenable P t .nils=wH P t:=by
  unfold lenable wH
  cases P.underlying t with
  | none=>rfl
  | some u=>cases u <;> rfl
@[go_sem] theorem zEg {t:TypeId} {b:Nat} {v:Value}:lenable P t (.own b v)=wH P t:=by
  unfold lenable wH
  cases P.underlying t with
  | none=>rfl
  | some u=>cases u <;> rfl
@[go_sem] theorem zVz {s:ByteArray}:aLen (.d (.str s)) H K=K (.d (.int .i64 s.size)):=Eq.trans rfl rfl
@[go_sem] theorem zRq {es:List D}:aLen (.d (.slice es)) H K=K (.d (.int .i64 es.length)):=Eq.trans rfl rfl
@[go_sem] theorem zVy {b:Nat} {v:Value}:aLen (.own b v) H K=xX (H b) v (hid (fun _ _ ds=>K (.d (.int .i64 ds.length))) ⟨⟩) (hid (fun ds=>K (.d (.int .i64 ds.length))) ⟨⟩):=by
  simp only [hid,szs,aLen,xX]
  cases H b with
  | none=>rfl
  | some o=>cases o <;> rfl
def ldV (s:Bool×Nat) (cs:List A) (off:Nat) (K:A→Prop):Prop:=match s with
  | (true,n)=>off+n≤cs.length∧K (aggN ((cs.drop off).take n))
  | (false,_)=>zR cs[off]? K
@[go_sem] theorem zXQ {n:Nat} {cs:List A} {off:Nat}:ldV (false,n) cs off K=zR cs[off]? K:=Eq.trans rfl rfl
@[go_sem] theorem zXP {n:Nat} {cs:List A} {off:Nat}:ldV (true,n) cs off K=andK (off+n≤cs.length) (hid (letA (aggN ((cs.drop off).take n)) K) ⟨⟩):=Eq.trans rfl rfl
def ldD (s:Bool×Nat) (cs:List D) (off:Nat) (K:A→Prop):Prop:=match s with
  | (true,n)=>off+n≤cs.length∧K (.d (.agg ((cs.drop off).take n)))
  | (false,_)=>zR cs[off]? fun d=>K (zDu d)
@[go_sem] theorem zXO {n:Nat} {cs:List D} {off:Nat}:ldD (false,n) cs off K=zR cs[off]? (hid (fun d=>letA (zDu d) K) ⟨⟩):=Eq.trans rfl rfl
@[go_sem] theorem zXN {n:Nat} {cs:List D} {off:Nat}:ldD (true,n) cs off K=andK (off+n≤cs.length) (hid (letA (D.agg ((cs.drop off).take n)) (hid (fun d=>K (.d d)) ⟨⟩)) ⟨⟩):=Eq.trans rfl rfl
@[go_sem] theorem zSC {t:TypeId} {b off:Nat}:xT P t (.ref b off) H K=wN (H b) (hid (fun cs=>zR (yN P t) (hid (fun s=>ldV s cs off K) ⟨⟩)) ⟨⟩):=by
  simp only [hid,szs,xT,wN,zR,ldV]
  cases H b with
  | none=>rfl
  | some o =>
    cases o with
    | var cs =>
      cases yN P t with
      | none=>rfl
      | some s=>obtain ⟨b,n⟩:=s; cases b <;> first | rfl | (simp only; cases cs[off]? <;> rfl)
    | _=>rfl
@[go_sem] theorem zSB {t:TypeId} {ds:List D}:xT P t (.imm ds) H K=zR (yN P t) (hid (fun s=>ldD s ds 0 K) ⟨⟩):=by
  simp only [hid,szs,xT,zR,ldD]
  cases yN P t with
  | none=>rfl
  | some s =>
    obtain ⟨b,n⟩:=s
    cases b
    · simp only; cases ds[0]? <;> rfl
    · simp
def yH (o:Option AObj) (v:Value) (K:TypeId→Nat→List D→Prop):Prop:=match o with
  | some (.arr E sz v' ds)=>v'=v∧K E sz ds
  | _=>False
@[go_sem] theorem zPA {E:TypeId} {sz:Nat} {v:Value} {ds:List D} {K:TypeId→Nat→List D→Prop}:yH (some (.arr E sz v ds)) v K=K E sz ds:=by simp [hid,szs,yH]
@[go_sem] theorem zRr {t:TypeId} {b:Nat} {v:Value} {sz i off:Nat}:xT P t (.eref b v sz i off) H K=yH (H b) v (hid (fun _ sz' ds=>zR (yN P t) (hid (fun s=>zR ds[i]? (hid (fun e=>andK (sz'=sz) (hid (ldD s e.cells off K) ⟨⟩)) ⟨⟩)) ⟨⟩)) ⟨⟩):=by
  simp only [hid,szs,xT,zR,ldD,yH,andK]
  cases H b with
  | none=>rfl
  | some o =>
    cases o with
    | arr E sz' v' ds =>
      cases yN P t with
      | none=>simp
      | some s =>
        obtain ⟨b,n⟩:=s
        cases b <;> simp only <;> generalize ds[i]?=z
        · cases z with
          | none=>simp
          | some e=>simp only; generalize e.cells[off]?=y; cases y <;> rfl
        · cases z with
          | none=>simp
          | some e=>rfl
    | _=>rfl
@[go_sem] theorem zRs {t:TypeId} {b off:Nat} {y:A} {K:Heap→Prop}:yU P t (.ref b off) y H K=wN (H b) (hid (fun cs=>zR (yN P t) (hid (fun s =>
    andK (y.good=true∧y.cells.length=s.2∧off+s.2≤cs.length) (hid (letA (yB cs off y.cells) (hid (fun l=>K (upd H b (.var l))) ⟨⟩)) ⟨⟩)) ⟨⟩)) ⟨⟩):=by
  simp only [hid,szs,yU,wN,zR,andK,letA]
  cases H b with
  | none=>rfl
  | some o =>
    cases o with
    | var cs =>
      cases yN P t with
      | none=>rfl
      | some s=>obtain ⟨b,n⟩:=s; simp only [hid,szs,and_assoc]
    | _=>rfl
theorem zHq {α:Type} {c:α} {cs xs:List α} {o:Nat}:yB (c::cs) (o+1) xs=c::yB cs o xs:=by simp [hid,szs,yB,Nat.add_right_comm]
theorem zGp {α:Type} {c y:α} {cs xs:List α}:yB (c::cs) 0 (y::xs)=y::yB cs 0 xs:=by simp [hid,szs,yB,Nat.add_comm]
theorem zIb {α:Type} {cs:List α}:yB cs 0 []=cs:=by simp [hid,szs,yB]
attribute [go_sem] zHq zGp zIb
@[go_sem] theorem zPx {t:TypeId} {b:Nat} {v:Value} {sz i off:Nat} {y:A} {K:Heap→Prop}:yU P t (.eref b v sz i off) y H K=putE H y (hid (fun d H=>yH (H b) v (hid (fun E sz' ds =>
    zR (yN P t) (hid (fun s=>zR ds[i]? (hid (fun e=>letA d.cells (hid (fun xs=>andK (sz'=sz∧xs.length=s.2∧off+s.2≤e.cells.length) (hid (letA (ds.set i (e.withCells (yB e.cells off xs))) (hid (fun l=>K (upd H b (.arr E sz' v l))) ⟨⟩)) ⟨⟩)) ⟨⟩)) ⟨⟩)) ⟨⟩)) ⟨⟩)) ⟨⟩):=by
  simp only [yU,hid,letA,andK]
  congr 1
  funext d H
  simp only [yH,zR]
  cases H b with
  | none=>rfl
  | some o =>
    cases o with
    | arr E sz' v' ds =>
      cases yN P t with
      | none=>simp
      | some s =>
        obtain ⟨g,n⟩:=s
        simp only
        generalize ds[i]?=z
        cases z with
        | none=>simp
        | some e =>
          simp only [eq_iff_iff]
          constructor
          · rintro ⟨h1, h2, h3, h4, h5⟩
            subst h1 h2
            exact ⟨rfl,⟨rfl,h3,h4⟩,h5⟩
          · rintro ⟨h1, ⟨h2, h3, h4⟩, h5⟩
            subst h1 h2
            exact ⟨rfl,rfl,h3,h4,h5⟩
    | _=>rfl
@[go_sem] theorem zYe {x:D} {K:D→Heap→Prop}:putE H (.d x) K=K x H:=Eq.trans rfl rfl
@[go_sem] theorem zXe {x:D} {K:D→Heap→Prop}:xG H (.d x) K=K x H:=by simp only [xG]
@[go_sem] theorem zBq {K:D→Heap→Prop}:xG H .nils K=K (.slice []) H:=by simp only [xG]
@[go_sem] theorem zS4 {b:Nat} {v:Value} {K:D→Heap→Prop}:xG H (.own b v) K=xX (H b) v (hid (fun _ _ ds=>K (.slice ds) (upd H b (.frz v ds))) ⟨⟩) (hid (fun ds=>K (.slice ds) H) ⟨⟩):=by
  simp only [xG,xX,hid]
  cases H b with
  | none=>rfl
  | some o=>cases o <;> rfl
@[go_sem] theorem zS3 {cs:List A} {K:D→Heap→Prop}:xG H (.agg cs) K=xU H cs (hid (fun ds H=>K (.agg ds) H) ⟨⟩):=by simp only [xG,hid]
@[go_sem] theorem zS5 {K:List D→Heap→Prop}:xU H [] K=K [] H:=by simp only [xU]
@[go_sem] theorem zRI {c:A} {cs:List A} {K:List D→Heap→Prop}:xU H (c::cs) K=xG H c (hid (fun d H=>xU H cs (hid (fun ds H=>K (d::ds) H) ⟨⟩)) ⟨⟩):=by simp only [xU,hid]
@[go_sem] theorem zTd {ms:List Bool} {x:A} {xs:List A} {K:List A→Heap→Prop}:frzM (true::ms) H (x::xs) K=xG H x (hid (fun d G=>frzM ms G xs (hid (fun l G=>K (.d d::l) G) ⟨⟩)) ⟨⟩):=Eq.trans rfl rfl
@[go_sem] theorem zRL {ms:List Bool} {x:A} {xs:List A} {K:List A→Heap→Prop}:frzM (false::ms) H (x::xs) K=frzM ms H xs (hid (fun l G=>K (x::l) G) ⟨⟩):=Eq.trans rfl rfl
def addO (x:A) (o:Nat) (K:A→Prop):Prop:=match x with
  | .ref b off=>K (.ref b (off+o))
  | .imm ds=>o≤ds.length∧K (.imm (ds.drop o))
  | .eref b v sz i off=>K (.eref b v sz i (off+o))
  | _=>False
@[go_sem] theorem zVB {b off o:Nat}:addO (.ref b off) o K=letA (off+o) (hid (fun n=>K (.ref b n)) ⟨⟩):=Eq.trans rfl rfl
@[go_sem] theorem zVA {ds:List D} {o:Nat}:addO (.imm ds) o K=andK (o≤ds.length) (hid (letA (ds.drop o) (hid (fun l=>K (.imm l)) ⟨⟩)) ⟨⟩):=Eq.trans rfl rfl
@[go_sem] theorem zSw {s:TypeId} {x:A} {f:Nat}:yV P s x f K=zR (yY P s f) (hid (fun o=>addO x o K) ⟨⟩):=by
  simp only [hid,szs,yV,zR]; cases yY P s f <;> rfl
def zI0 (P:Program) (s:TypeId) (f:Nat):Option ((Bool×Nat)×Nat) :=
  match P.underlying s with
  | some (.struct fields)=>match fields[f]? with
    | some fd=>match yN P fd.type with
      | some t=>some (t,fd.offset)
      | none=>none
    | none=>none
  | _=>none
def xD (x:A) (s:(Bool×Nat)×Nat) (K:A→Prop):Prop:=match x with
  | .agg cs=>ldV s.1 cs s.2 K
  | .d (.agg cs)=>ldD s.1 cs s.2 K
  | _=>False
@[go_sem] theorem zVO {cs:List D} {s:Bool×Nat} {o:Nat}:xD (.d (.agg cs)) (s,o) K=ldD s cs o K:=Eq.trans rfl rfl
theorem zIu {t:TypeId} {x:A} {o:Nat}:zB3 P t x o K=zR (yN P t) fun s=>xD x (s,o) K:=by
  simp only [hid,szs,zB3,zR,xD]
  cases yN P t with
  | none =>
    rcases x with _ | x | _ | _ | _ | _ | _ | _ | _ | _ <;> try rfl
    cases x <;> rfl
  | some s =>
    obtain ⟨b,n⟩:=s
    rcases x with _ | x | _ | cs | _ | _ | _ | _ | _ | _ <;> try rfl
    · cases x with
      | agg cs=>cases b <;> first | rfl | (simp only [hid,szs,ldD,zR]; cases cs[o]? <;> rfl)
      | _=>rfl
    · cases b <;> first | rfl | (simp only [hid,szs,ldV,zR]; cases cs[o]? <;> rfl)
@[go_sem] theorem zPt {s:TypeId} {x:A} {f:Nat}:zX P s x f K=zR (zI0 P s f) (hid (fun p=>xD x p K) ⟨⟩):=by
  simp only [hid,szs,zX,zI0]
  cases P.underlying s with
  | none=>rfl
  | some u =>
    cases u with
    | struct fields =>
      simp only
      cases fields[f]? with
      | none=>rfl
      | some fd =>
        simp only [hid,szs,zIu]
        cases yN P fd.type <;> rfl
    | _=>rfl
def zFd (P:Program) (t:TypeId):Option Nat:=match P.underlying t with
  | some (.slice e)=>(yN P e).map (·.2)
  | _=>none
def idxA (x:A) (sz n:Nat) (H:Heap) (K:A→Prop):Prop:=match x with
  | .d (.slice es)=>zR es[n]? fun d=>d.cells.length=sz∧K (.imm d.cells)
  | .own b v=>xX (H b) v (fun _ sz' ds=>sz'=sz∧n < ds.length∧K (.eref b v sz n 0)) (fun es=>zR es[n]? fun d=>d.cells.length=sz∧K (.imm d.cells))
  | _=>False
@[go_sem] theorem zRN {es:List D} {sz n:Nat}:idxA (.d (.slice es)) sz n H K=zR es[n]? (hid (fun d=>andK (d.cells.length=sz) (hid (letA d.cells (hid (fun l=>K (.imm l)) ⟨⟩)) ⟨⟩)) ⟨⟩):=Eq.trans rfl rfl
@[go_sem] theorem zVJ {b:Nat} {v:Value} {sz n:Nat}:idxA (.own b v) sz n H K=xX (H b) v (hid (fun _ sz' ds=>andK (sz'=sz∧n < ds.length) (hid (K (.eref b v sz n 0)) ⟨⟩)) ⟨⟩)
    (hid (fun es=>zR es[n]? (hid (fun d=>andK (d.cells.length=sz) (hid (letA d.cells (hid (fun l=>K (.imm l)) ⟨⟩)) ⟨⟩)) ⟨⟩)) ⟨⟩):=by simp only [hid,szs,idxA,andK,letA,and_assoc]
@[go_sem] theorem zLY {t:TypeId} {x i:A}:zI P t x i H K=zR (zFd P t) (hid (fun sz=>xR i (hid (fun n=>andK (0≤n) (hid (letA n.toNat (hid (fun n=>idxA x sz n H K) ⟨⟩)) ⟨⟩)) ⟨⟩)) ⟨⟩):=by
  simp only [hid,szs,zI,zFd]
  cases P.underlying t with
  | none=>rfl
  | some u =>
    cases u with
    | slice e =>
      simp only
      cases yN P e with
      | none=>rfl
      | some s =>
        simp only [hid,szs,Option.map_some,zR,xR,andK,letA,idxA,xX]
        congr 1
        funext n
        congr 1
        rcases x with _ | x | _ | cs | _ | _ | _ | _ | _ | _ <;> try rfl
        · cases x with
          | slice es=>simp only; cases es[n.toNat]? <;> rfl
          | _=>rfl
        · rename_i b v
          simp only
          cases H b with
          | none=>rfl
          | some o =>
            cases o with
            | frz v' es=>simp only; cases es[n.toNat]? <;> rfl
            | _=>rfl
    | _=>rfl
@[go_sem] theorem zRo {t:TypeId} {s:ByteArray} {i:A}:yG P t (.d (.str s)) i K=andK (zGV P t=true) (hid (xR i (hid (fun n=>andK (0≤n) (hid (zR s[n.toNat]? (hid (fun b=>K (.d (.int .u8 b.toNat))) ⟨⟩)) ⟨⟩)) ⟨⟩)) ⟨⟩):=by
  simp only [hid,szs,yG,zGV,andK]
  cases P.underlying t with
  | none=>simp
  | some u => cases u <;> first | (simp; done) | skip
              simp only [hid,szs,true_and,xR,zR]
              congr 1
              funext n
              congr 1
              cases s[n.toNat]? <;> rfl
def zHH (P:Program) (t:TypeId):Option (Nat×(Bool×Nat)):=match P.underlying t with
  | some (.array len e)=>(yN P e).map fun s=>(len,s)
  | _=>none
@[go_sem] theorem zOS {t:TypeId} {x:D} {i:A}:zL P t (.d x) i H K=zI P t (.d x) i H K:=Eq.trans rfl rfl
@[go_sem] theorem zLZ {t:TypeId} {b:Nat} {v:Value} {i:A}:zL P t (.own b v) i H K=zI P t (.own b v) i H K:=Eq.trans rfl rfl
@[go_sem] theorem zL0 {t:TypeId} {b off:Nat} {i:A}:zL P t (.ref b off) i H K=zR (zHH P t) (hid (fun p=>xR i (hid (fun n=>andK (0≤n∧n.toNat < p.1) (hid (letA (off+n.toNat * p.2.2) (hid (fun o=>K (.ref b o)) ⟨⟩)) ⟨⟩)) ⟨⟩)) ⟨⟩):=by
  simp only [hid,zL,zB2,zHH]
  cases P.underlying t with
  | none=>rfl
  | some u =>
    cases u with
    | array len e =>
      simp only
      cases yN P e with
      | none=>rfl
      | some s=>simp only [Option.map_some,zR,xR,andK,letA,and_assoc]
    | _=>rfl
@[go_sem] theorem zRp {t:TypeId} {s:ByteArray} {i:A}:yW P t (.d (.str s)) i K=yG P t (.d (.str s)) i K:=Eq.trans rfl rfl
theorem zJq {t:TypeId} {x i:A}:zDR P t x i K=zR (zHH P t) (hid (fun p=>xR i (hid (fun n=>andK (0≤n∧n.toNat < p.1) (hid (letA (n.toNat * p.2.2) (hid (fun o=>xD x (p.2,o) K) ⟨⟩)) ⟨⟩)) ⟨⟩)) ⟨⟩):=by
  simp only [hid,zDR,zHH]
  cases P.underlying t with
  | none=>rfl
  | some u =>
    cases u with
    | array len e =>
      simp only
      cases hs:yN P e with
      | none=>rfl
      | some s=>simp only [Option.map_some,zR,xR,andK,letA,and_assoc,zIu,hs]
    | _=>rfl
@[go_sem] theorem zPu {t:TypeId} {cs:List D} {i:A}:yW P t (.d (.agg cs)) i K=zR (zHH P t) (hid (fun p=>xR i (hid (fun n=>andK (0≤n∧n.toNat < p.1) (hid (letA (n.toNat * p.2.2) (hid (fun o=>xD (.d (.agg cs)) (p.2,o) K) ⟨⟩)) ⟨⟩)) ⟨⟩)) ⟨⟩):=zJq
@[go_sem] theorem zSP {a:A} {n:Nat} {K:Nat→Nat→Prop}:qV (some a) none n K=xR a (hid (fun l=>andK (0≤l∧l.toNat≤n) (hid (letA l.toNat (hid (fun l=>K l n) ⟨⟩)) ⟨⟩)) ⟨⟩):=by simp only [hid,szs,qV,xR,andK,letA,and_assoc]
@[go_sem] theorem zSQ {a c:A} {n:Nat} {K:Nat→Nat→Prop}:qV (some a) (some c) n K=xR c (hid (fun h=>andK (0≤h∧h.toNat≤n) (hid (xR a (hid (fun l=>andK (0≤l∧l.toNat≤h.toNat) (hid (letA l.toNat (hid (fun l=>letA h.toNat (hid (fun h=>K l h) ⟨⟩)) ⟨⟩)) ⟨⟩)) ⟨⟩)) ⟨⟩)) ⟨⟩):=by
  simp only [hid,szs,qV,xR,andK,letA,and_assoc]
def zId (P:Program) (t:TypeId):Option (Option Nat):=match P.underlying t with
  | some .string=>some none
  | some (.slice e)=>(yN P e).map fun s=>some s.2
  | _=>none
def slA (x:A) (lo hi:Option A) (H:Heap) (K:A→Heap→Prop):Option Nat→Prop
  | none=>match x with
    | .d (.str s)=>qV lo hi s.size fun l m=>K (.d (.str (s.extract l m))) H
    | _=>False
  | some sz=>match x with
    | .nils=>qV lo hi 0 fun _ _=>K .nils H
    | .d (.slice es)=>(szs sz es)∧qV lo hi es.length fun l m=>K (.d (.slice ((es.take m).drop l))) H
    | .own b v=>match H b with
      | some (.arr E sz' v' ds)=>v'=v∧sz=sz'∧match lo with
        | none=>qV none hi ds.length fun _ m=>∀ v2:Value,v2.ownBlock=some b→K (.own b v2) (upd H b (.arr E sz' v2 (ds.take m)))
        | some _=>qV lo hi ds.length fun l m=>K (.d (.slice ((ds.take m).drop l))) (upd H b (.frz v ds))
      | some (.frz v' ds)=>v'=v∧(szs sz ds)∧qV lo hi ds.length fun l m=>K (.d (.slice ((ds.take m).drop l))) H
      | _=>False
    | _=>False
@[go_sem] theorem zX0 {s:ByteArray} {lo hi:Option A}:slA (.d (.str s)) lo hi H KH none=qV lo hi s.size (hid (fun l m=>KH (.d (.str (s.extract l m))) H) ⟨⟩):=Eq.trans rfl rfl
@[go_sem] theorem zSD {t:TypeId} {x:A} {lo hi:Option A}:xC P t x lo hi H KH=zR (zId P t) (hid (fun s=>slA x lo hi H KH s) ⟨⟩):=by
  simp only [hid,szs,xC,zId]
  cases P.underlying t with
  | none=>cases x <;> rfl
  | some u =>
    cases u with
    | string =>
      rcases x with _ | x | _ | cs | _ | _ | _ | _ | _ | _ <;> try rfl
      cases x <;> rfl
    | slice e =>
      simp only
      have he:zR ((yN P e).map fun s=>some s.2) (fun s=>slA x lo hi H KH s)=zR (yN P e) fun s=>slA x lo hi H KH (some s.2):=by
        cases yN P e <;> rfl
      rw [he]
      clear he
      simp only [hid,szs,zR]
      rcases x with _ | x | _ | cs | _ | _ | _ | b | _ | _
      case d =>
        cases x with
        | slice es=>simp only [hid,szs,slA]; generalize yN P e=s; cases s <;> rfl
        | _=>simp only [hid,szs,slA]; cases yN P e <;> rfl
      case nils=>simp only [hid,szs,slA]; generalize yN P e=s; cases s <;> simp
      case own =>
        rename_i v
        simp only [hid,szs,slA]
        cases H b with
        | none=>cases yN P e <;> rfl
        | some o =>
          cases o with
          | var cs=>simp only; cases yN P e <;> rfl
          | arr E sz v' ds=>simp only; generalize yN P e=s; cases s <;> first | rfl | (cases lo <;> rfl)
          | frz v' ds=>simp only; generalize yN P e=s; cases s <;> rfl
          | map s m=>simp only; cases yN P e <;> rfl
          | loop L n F=>simp only; cases yN P e <;> rfl
      all_goals (simp only [hid,szs,slA]; cases yN P e <;> rfl)
    | _=>cases x <;> rfl
def zFb (P:Program) (t:TypeId):Option (TypeId×Nat×Nat):=match P.underlying t with
  | some (.slice e)=>match P.info? e with
    | some i=>match i.zero with
      | some z=>if z.cells.size=i.size∧0 < i.size∧0 < i.bytes then some (e,i.size,i.bytes) else none
      | none=>none
    | none=>none
  | _=>none
@[go_sem] theorem zWY {b:Nat} {v:Value} {K:List D→Prop}:srcK H (.own b v) K=xX (H b) v (hid (fun _ _ ds=>K ds) ⟨⟩) K:=by
  simp only [hid,szs,srcK,xX]
  cases H b with
  | none=>rfl
  | some o=>cases o <;> rfl
def appTo (dst:A) (ns:List D) (e:TypeId) (sz by_:Nat) (H:Heap) (K:A→Heap→Prop):Prop:=match dst with
  | .nils=>ns.length * by_≤140737488355328∧(ns=[]→K .nils H)∧(ns≠[]→newV H fun b v=>K (.own b v) (upd H b (.arr e sz v ns)))
  | .own b v=>match H b with
    | some (.arr E sz' v' ds)=>v'=v∧E=e∧sz'=sz∧(ds.length+ns.length) * by_≤140737488355328 ∧
      wP H b fun b' v'=>K (.own b' v') (upd (del H b) b' (.arr e sz v' (ds++ns)))
    | some (.frz v' ds)=>v'=v∧zRh v=true∧ns≠[]∧ds≠[]∧(∀ d ∈ ds,d.cells.length=sz)∧(ds.length+ns.length) * by_≤140737488355328 ∧
      newV H fun b' v'=>K (.own b' v') (upd H b' (.arr e sz v' (ds++ns)))
    | _=>False
  | .d (.slice es)=>ns=[]∧K (.d (.slice es)) H
  | _=>False
@[go_sem] theorem zRB {n:D} {ns:List D} {e:TypeId} {sz by_:Nat}:appTo .nils (n::ns) e sz by_ H KH=andK ((ns.length+1) * by_≤140737488355328) (hid (newV H (hid (fun b v=>KH (.own b v) (upd H b (.arr e sz v (n::ns)))) ⟨⟩)) ⟨⟩):=by
  simp [hid,szs,appTo,andK]
theorem zDZ {ns:List D} {e:TypeId} {sz by_:Nat} (h:ns.length * by_≤140737488355328) (h0:ns=[]→KH .nils H) (h1:ns≠[]→newV H fun b v=>KH (.own b v) (upd H b (.arr e sz v ns))):appTo .nils ns e sz by_ H KH:=⟨h,h0,h1⟩
@[go_sem] theorem zSN {b:Nat} {v:Value} {ns:List D} {e:TypeId} {sz by_:Nat}:appTo (.own b v) ns e sz by_ H KH=xX (H b) v (hid (fun E sz' ds=>andK (E=e∧sz'=sz∧(ds.length+ns.length) * by_≤140737488355328)
      (hid (wP H b (hid (fun b' v'=>letA (ds++ns) (hid (fun l=>KH (.own b' v') (upd (del H b) b' (.arr e sz v' l))) ⟨⟩)) ⟨⟩)) ⟨⟩)) ⟨⟩)
      (hid (fun ds=>andK (zRh v=true∧ns≠[]∧ds≠[]∧szs sz ds∧(ds.length+ns.length) * by_≤140737488355328)
      (hid (newV H (hid (fun b' v'=>letA (ds++ns) (hid (fun l=>KH (.own b' v') (upd H b' (.arr e sz v' l))) ⟨⟩)) ⟨⟩)) ⟨⟩)) ⟨⟩):=by
  simp only [hid,szs,appTo,xX,andK,letA]
  cases H b with
  | none=>rfl
  | some o=>cases o <;> simp [hid,szs,and_assoc]
@[go_sem] theorem zRn {t:TypeId} {dst src:A}:yF P t dst src H KH=zR (zFb P t) (hid (fun f=>srcK H src (hid (fun ns=>andK (szs f.2.1 ns) (hid (appTo dst ns f.1 f.2.1 f.2.2 H KH) ⟨⟩)) ⟨⟩)) ⟨⟩):=by
  simp only [hid,szs,yF,zFb]
  cases P.underlying t with
  | none=>rfl
  | some u =>
    cases u with
    | slice e =>
      simp only
      cases P.info? e with
      | none=>rfl
      | some i =>
        simp only
        cases i.zero with
        | none=>rfl
        | some z =>
          simp only
          by_cases h:z.cells.size=i.size∧0 < i.size∧0 < i.bytes
          · rw [if_pos h]
            simp only [hid,szs,zR,h.1,h.2.1,h.2.2,true_and,andK,appTo]
            congr 1
            funext ns
            congr 1
            cases dst with
            | own b v =>
              simp only
              cases H b with
              | none=>rfl
              | some o =>
                cases o with
                | arr E sz' v' ds =>
                  simp only [hid,szs,eq_iff_iff]
                  constructor <;> (rintro ⟨a,b,rfl,d,e⟩; exact ⟨a,b,rfl,d,e⟩)
                | _=>rfl
            | d x=>cases x <;> rfl
            | _=>rfl
          · rw [if_neg h]
            simp only [hid,szs,zR,eq_iff_iff,iff_false]
            rintro ⟨a,b,c,_⟩
            exact h ⟨a,b,c⟩
    | _=>rfl
def zDs (P:Program) (t:TypeId):Option (List A×List (Nat×Nat)):=match P.underlying t with
  | some (.array len e)=>(P.info? e).bind fun i=>(uV P t).map fun zs=>(zs,(List.range len).map fun k=>(k * i.size,i.size))
  | some (.struct fields)=>if zIc P fields=true then (uV P t).map fun zs=>(zs,fields.toList.map fun f=>(f.offset,((P.info? f.type).map (·.size)).getD 0)) else none
  | _=>none
def wF (pl:List (Nat×Nat)):List A→List (Nat×A)→(List A→Prop)→Prop
  | cs,[],K=>K cs
  | cs,(i,x)::rest,K=>zR pl[i]? fun p=>x.good=true∧x.cells.length=p.2∧p.1+p.2≤cs.length∧wF pl (yB cs p.1 x.cells) rest K
@[go_sem] theorem zTc {pl:List (Nat×Nat)} {cs:List A} {K:List A→Prop}:wF pl cs [] K=K cs:=Eq.trans rfl rfl
@[go_sem] theorem zRJ {pl:List (Nat×Nat)} {cs:List A} {i:Nat} {x:A} {rest:List (Nat×A)} {K:List A→Prop}:wF pl cs ((i,x)::rest) K =
    zR pl[i]? (hid (fun p=>letA x.cells (hid (fun xs=>andK (x.good=true∧xs.length=p.2∧p.1+p.2≤cs.length) (hid (letA (yB cs p.1 xs) (hid (fun cs=>wF pl cs rest K) ⟨⟩)) ⟨⟩)) ⟨⟩)) ⟨⟩):=by
  simp only [hid,szs,wF,letA,andK,and_assoc]
theorem zFW {place:Nat→Option (Nat×Nat)} {pl:List (Nat×Nat)} (hp:∀ i,place i=pl[i]?) {K:List A→Prop}:∀ (l:List (Nat×A)) (cs:List A),
    zR (zBC place cs l) K=wF pl cs l K
  | [],cs=>rfl
  | (i,x)::rest,cs=>by
    simp only [hid,szs,zBC,wF,hp i]
    cases pl[i]? with
    | none=>rfl
    | some p =>
      show zR (if x.good=true∧x.cells.length=p.2∧p.1+p.2≤cs.length then zBC place (yB cs p.1 x.cells) rest else none) K=_
      by_cases h:x.good=true∧x.cells.length=p.2∧p.1+p.2≤cs.length
      · rw [if_pos h, zFW hp rest]
        simp only [hid,szs,zR,h.1,h.2.1,h.2.2,true_and]
      · rw [if_neg h]
        simp only [hid,szs,zR,eq_iff_iff,false_iff]
        rintro ⟨a,b,c,_⟩
        exact h ⟨a,b,c⟩
@[go_sem] theorem zSv {t:TypeId} {l:List (Nat×A)}:yZ P t l K=zR (zDs P t) (hid (fun f=>wF f.2 f.1 l (hid (fun cs=>letA (aggN cs) K) ⟨⟩)) ⟨⟩):=by
  simp only [hid,szs,yZ,zDs]
  cases P.underlying t with
  | none=>rfl
  | some u =>
    cases u with
    | struct fields =>
      simp only
      cases uV P t with
      | none=>simp only [hid,szs,Option.map_none,ite_self]; rfl
      | some zs =>
        simp only [hid,szs,Option.map_some]
        by_cases h:zIc P fields=true
        · rw [if_pos h, if_pos h]
          simp only [hid,szs,zR]
          refine Eq.trans (b:=zR (zBC (zFs P fields) zs l) fun cs=>letA (aggN cs) K) ?_ (zFW ?_ l zs)
          · cases zBC (zFs P fields) zs l <;> rfl
          · intro i
            simp only [hid,szs,zFs,List.getElem?_map,Array.getElem?_toList]
            cases hf:fields[i]? with
            | none=>rfl
            | some f =>
              have:=Array.all_eq_true_iff_forall_mem.1 h f (Array.mem_of_getElem? hf)
              obtain ⟨j,hj⟩:=Option.isSome_iff_exists.1 this
              simp [hid,szs,hj]
        · rw [if_neg h,if_neg h]; rfl
    | array len e =>
      simp only
      cases uV P t with
      | none=>cases P.info? e <;> rfl
      | some zs =>
        simp only
        cases P.info? e with
        | none=>rfl
        | some i =>
          simp only [hid,szs,Option.map_some,Option.bind_some,zR]
          refine Eq.trans (b:=zR (zBC (zG7 len i.size) zs l) fun cs=>letA (aggN cs) K) ?_ (zFW ?_ l zs)
          · cases zBC (zG7 len i.size) zs l <;> rfl
          · intro k
            simp only [zG7,List.getElem?_map]
            by_cases h:k < len
            · rw [if_pos h,List.getElem?_range h]; rfl
            · rw [if_neg h,List.getElem?_eq_none (by simpa using h)]; rfl
    | _=>rfl
def bsOf (P:Program) (t:TypeId):Option (TypeId×Nat×Bool):=match P.underlying t with
  | some (.slice e)=>match P.info? e,uV P e with
    | some i,some zs=>if zs.length=i.size∧0 < i.size then some (e,i.size,isU8 P e) else none
    | _,_=>none
  | _=>none
@[go_sem] theorem zSh {n:Nat} {K:Nat→Value→Prop}:rowK false n H K=newV H K:=Eq.trans rfl rfl
@[go_sem] theorem zU5 {n:Nat} {K:Nat→Value→Prop} {l:Lk K}:rowK true n H (hid K l)=newK H (hid (fun b=>K b (litV b n)) ⟨⟩):=Eq.trans rfl rfl
@[go_sem] theorem zLW {t:TypeId} {n:Nat} {l:List (Nat×A)}:zJ P t n l H KH=zR (bsOf P t) (hid (fun f=>andK (n * f.2.1≤16777216) (hid (andK (l.map (·.1)=List.range n) (hid (letA (l.map (·.2)) (hid (fun l =>
    xU H l (hid (fun ds H=>andK (szs f.2.1 ds) (hid (rowK f.2.2 n H (hid (fun b v=>KH (.own b v) (upd H b (.arr f.1 f.2.1 v ds))) ⟨⟩)) ⟨⟩)) ⟨⟩)) ⟨⟩)) ⟨⟩)) ⟨⟩)) ⟨⟩):=by
  simp only [hid,szs,zJ,bsOf]
  cases P.underlying t with
  | none=>rfl
  | some u =>
    cases u with
    | slice e =>
      simp only
      cases P.info? e with
      | none=>rfl
      | some i =>
        cases uV P e with
        | none=>rfl
        | some zs =>
          simp only
          by_cases h:zs.length=i.size∧0 < i.size
          · rw [if_pos h]
            simp only [hid,szs,zR,h.1,h.2,true_and,andK,letA]
          · rw [if_neg h]
            simp only [hid,szs,zR,eq_iff_iff,iff_false]
            rintro ⟨a,b,_⟩
            exact h ⟨a,b⟩
    | _=>rfl
def mkOf (P:Program) (t:TypeId):Option (TypeId×Nat×Nat×D):=match P.underlying t with
  | some (.slice e)=>match P.info? e,zE5 P e with
    | some i,some zd=>if 0 < i.size∧zd.cells.length=i.size∧0 < i.bytes then some (e,i.size,i.bytes,zd) else none
    | _,_=>none
  | _=>none
@[go_sem] theorem zMD {t:TypeId} {l c:A}:zM P t l c H KH=zR (mkOf P t) (hid (fun f=>xR l (hid (fun n=>xR c (hid (fun m=>andK (m=n∧0≤n∧n * f.2.2.1≤140737488355328) (hid (letA n.toNat (hid (fun n =>
    newV H (hid (fun b v=>KH (.own b v) (upd H b (.arr f.1 f.2.1 v (List.replicate n f.2.2.2)))) ⟨⟩)) ⟨⟩)) ⟨⟩)) ⟨⟩)) ⟨⟩)) ⟨⟩):=by
  simp only [hid,szs,zM,mkOf]
  cases P.underlying t with
  | none=>rfl
  | some u =>
    cases u with
    | slice e =>
      simp only
      cases P.info? e with
      | none=>rfl
      | some i =>
        cases zE5 P e with
        | none=>rfl
        | some zd =>
          simp only
          by_cases h:0 < i.size∧zd.cells.length=i.size∧0 < i.bytes
          · rw [if_pos h]
            simp only [hid,szs,zR,xR,h.1,h.2.1,h.2.2,true_and,andK,letA,and_assoc]
          · rw [if_neg h]
            simp only [hid,szs,zR,eq_iff_iff,iff_false]
            rintro ⟨a,b,hh⟩
            cases l <;> try exact hh.elim
            rename_i x
            cases x <;> try exact hh.elim
            cases c <;> try exact hh.elim
            rename_i x
            cases x <;> try exact hh.elim
            simp only [hid,szs,intA] at hh
            exact h ⟨a,b,hh.2.2.2.1⟩
    | _=>rfl
end
end Go.Aug
