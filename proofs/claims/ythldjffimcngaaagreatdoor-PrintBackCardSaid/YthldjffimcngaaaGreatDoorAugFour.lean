/- The abstract layer: abstract values and heaps, what code does to them, the conditions of its operations as equations; no conditions of its own. -/
import Derived.Test.YthldjffimcngaaaGreatDoorAugThree
import Derived.Laws.BitsLemmas
import Derived.Laws.Bits64
import Derived.ChangeArms
import Derived.DataReads
import GoSem.ClaimChange
import Derived.Lib.LaidTab
import Derived.Stop.LaidErr
import Derived.ChangeSame
import Derived.ChangeVars
import Derived.JoinedOf
import Derived.RowKit
import Derived.Carry
import Derived.OpenShut
import Derived.Defers
import Derived.DefersIn
import Derived.RecoverIn
import Derived.Below
set_option linter.all false
set_option linter.unusedVariables false
set_option linter.unusedSimpArgs false
set_option linter.unusedSectionVars false

/-
  The abstract layer, part U: comparing, reckoning and converting, said so that they can be reckoned out; what is handed back.
-/
set_option linter.unusedSimpArgs false
namespace Go.Aug
section
variable {P:Program} {V:Env} {H:Heap} {K:A→Prop}
variable {t:TypeId} {l:Bool} {k:IntKind} {a b:Int}
@[go_sem] theorem zVn:aBin P V .add t l (.d (.int k a)) (.d (.int k b)) K=K (.d (.int k (k.wrap (a+b)))):=by simp [hid,aBin,zCe]
@[go_sem] theorem zVw:aBin P V .sub t l (.d (.int k a)) (.d (.int k b)) K=K (.d (.int k (k.wrap (a - b)))):=by simp [hid,aBin,zCe]
@[go_sem] theorem zVu:aBin P V .quo t l (.d (.int k a)) (.d (.int k b)) K=andK (b≠0) (hid (K (.d (.int k (k.wrap (a.tdiv b))))) ⟨⟩):=by simp [hid,aBin,zCe,andK]
@[go_sem] theorem zVv:aBin P V .rem t l (.d (.int k a)) (.d (.int k b)) K=andK (b≠0) (hid (K (.d (.int k (a.tmod b)))) ⟨⟩):=by simp [hid,aBin,zCe,andK]
@[go_sem] theorem zVo:aBin P V .eql t l (.d (.int k a)) (.d (.int k b)) K=K (.d (.bool (decide (a=b)))):=by simp [hid,aBin,zCe]
@[go_sem] theorem zVt:aBin P V .neq t l (.d (.int k a)) (.d (.int k b)) K=K (.d (.bool (!decide (a=b)))):=by simp [hid,aBin,zCe]
@[go_sem] theorem zVs:aBin P V .lss t l (.d (.int k a)) (.d (.int k b)) K=K (.d (.bool (decide (a < b)))):=by simp [hid,aBin,zCe]
@[go_sem] theorem zVr:aBin P V .leq t l (.d (.int k a)) (.d (.int k b)) K=K (.d (.bool (decide (a≤b)))):=by simp [hid,aBin,zCe]
@[go_sem] theorem zVq:aBin P V .gtr t l (.d (.int k a)) (.d (.int k b)) K=K (.d (.bool (decide (b < a)))):=by simp [hid,aBin,zCe]
@[go_sem] theorem zVp:aBin P V .geq t l (.d (.int k a)) (.d (.int k b)) K=K (.d (.bool (decide (b≤a)))):=by simp [hid,aBin,zCe]
variable {s u:ByteArray}
@[go_sem] theorem zSs:aBin P V .add t l (.d (.str s)) (.d (.str u)) K=andK (s.size+u.size≤9223372036854775807) (hid (K (.d (.str (s++u)))) ⟨⟩):=Eq.trans rfl rfl
@[go_sem] theorem zSt:aBin P V .eql t l (.d (.str s)) (.d (.str u)) K=K (.d (.bool (decide (s=u)))):=Eq.trans rfl rfl
@[go_sem] theorem zSu:aBin P V .neq t l (.d (.str s)) (.d (.str u)) K=K (.d (.bool (!decide (s=u)))):=Eq.trans rfl rfl
@[go_sem] theorem zPp {a b:Bool}:aBin P V .eql t l (.d (.bool a)) (.d (.bool b)) K=andK (zEa P t=true) (hid (K (.d (.bool (a == b)))) ⟨⟩):=by simp [hid,aBin,aEq,andK]
@[go_sem] theorem zPr {a b:Bool}:aBin P V .neq t l (.d (.bool a)) (.d (.bool b)) K=andK (zEa P t=true) (hid (K (.d (.bool !(a == b)))) ⟨⟩):=by simp [hid,aBin,aEq,andK]
variable {g g':Nat}
@[go_sem] theorem zPq:aBin P V .eql t l (.d (.sent g)) (.d (.sent g')) K=andK (zMU P V t=true∧V.G g=some (.sent g)∧V.G g'=some (.sent g')) (hid (K (.d (.bool (decide (g=g'))))) ⟨⟩):=by simp [hid,aBin,aEq,andK,and_assoc]
@[go_sem] theorem zLV:aBin P V .neq t l (.d (.sent g)) (.d (.raw .nilIface)) K=andK (jU P t=true) (hid (K (.d (.bool true))) ⟨⟩):=by simp [hid,aBin,aEq,andK]
@[go_sem] theorem zMy {t':TypeId} {u:Value}:aBin P V .neq t l (.d (.raw (.iface t' u))) (.d (.raw .nilIface)) K=andK (jU P t=true) (hid (K (.d (.bool true))) ⟨⟩):=by simp [hid,aBin,aEq,andK]
@[go_sem] theorem zMw:aBin P V .eql t l (.d (.raw .nilIface)) (.d (.raw .nilIface)) K=andK (l=true∧jU P t=true) (hid (K (.d (.bool true))) ⟨⟩):=by simp [hid,aBin,aEq,andK,and_assoc]
@[go_sem] theorem zMx:aBin P V .neq t l (.d (.raw .nilIface)) (.d (.raw .nilIface)) K=andK (l=true∧jU P t=true) (hid (K (.d (.bool false))) ⟨⟩):=by simp [hid,aBin,aEq,andK,and_assoc]
@[go_sem] theorem zW9:aUn .neg (.d (.int k a)) K=K (.d (.int k (k.wrap (0 - a)))):=Eq.trans rfl rfl
@[go_sem] theorem zXa {b:Bool}:aUn .not (.d (.bool b)) K=K (.d (.bool (!b))):=Eq.trans rfl rfl
inductive Conv where
  | int (k:IntKind)
  | str
  | toStr
  | toBytes
def zIz (P:Program) (s d:TypeId):Option Conv:=match P.underlying s,P.underlying d with
  | some _,some (.int k)=>some (.int k)
  | some .string,some .string=>some .str
  | some (.slice e),some .string=>match P.underlying e with
    | some (.int .u8)=>some .toStr
    | _=>none
  | some .string,some (.slice e)=>match P.underlying e with
    | some (.int .u8)=>some .toBytes
    | _=>none
  | _,_=>none
def cvA (x:A) (H:Heap) (K:A→Prop):Conv→Prop
  | .int k=>xR x fun n=>K (.d (.int k (k.wrap n)))
  | .str=>match x with
    | .d (.str s)=>K (.d (.str s))
    | _=>False
  | .toStr=>srcK H x fun es=>∃ bs:List UInt8,es=bs.map byteD∧K (.d (.str ⟨bs.toArray⟩))
  | .toBytes=>match x with
    | .d (.str s)=>K (.d (.slice (s.data.toList.map byteD)))
    | _=>False
@[go_sem] theorem zXd {x:A}:cvA x H K (.int k)=xR x (hid (fun n=>K (.d (.int k (k.wrap n)))) ⟨⟩):=Eq.trans rfl rfl
@[go_sem] theorem zS2 {x:A}:cvA x H K .toStr=srcK H x (hid (fun es=>∃ bs:List UInt8,es=bs.map byteD∧K (.d (.str ⟨bs.toArray⟩))) ⟨⟩):=Eq.trans rfl rfl
@[go_sem] theorem zVx {s d:TypeId} {x:A}:wK P s d x H K=zR (zIz P s d) (hid (fun c=>cvA x H K c) ⟨⟩):=by
  simp only [hid,wK,zIz]
  cases P.underlying s with
  | none=>rfl
  | some a =>
    cases P.underlying d with
    | none=>cases a <;> rfl
    | some b =>
      cases b with
      | int k =>
        cases a <;> (simp only [hid,zR,cvA,xR]; cases x <;> first | rfl | (rename_i x; cases x <;> rfl))
      | string =>
        cases a with
        | string =>
          simp only [hid,zR,cvA]
          cases x <;> first | rfl | (rename_i x; cases x <;> rfl)
        | slice e =>
          simp only
          cases P.underlying e with
          | none=>rfl
          | some u=>cases u <;> first | rfl | (rename_i k; cases k <;> rfl)
        | _=>rfl
      | slice e =>
        cases a with
        | string =>
          simp only
          cases P.underlying e with
          | none=>rfl
          | some u=>cases u <;> first | rfl | (rename_i k; cases k <;> first | rfl | (cases x <;> first | rfl | (rename_i x; cases x <;> rfl)))
        | _=>rfl
      | _=>cases a <;> rfl
end
def numb:Nat→List A→List (Nat×A)
  | _,[]=>[]
  | i,x::l=>(i,x)::numb (i+1) l
@[go_sem] theorem zVN {i:Nat}:numb i []=[]:=Eq.trans rfl rfl
@[go_sem] theorem zTT {i:Nat} {x:A} {l:List A}:numb i (x::l)=(i,x)::numb (i+1) l:=Eq.trans rfl rfl
theorem zIS:∀ (l:List A) (i j:Nat),mkF (numb i l) j=if i≤j then l.getD (j - i) .undef else .undef
  | [],i,j=>by simp [numb,mkF]
  | x::l,i,j=>by
    simp only [numb,mkF,zIS l]
    by_cases h:j=i
    · subst h; simp
    · rw [if_neg h]
      by_cases h1:i≤j
      · rw [if_pos h1, if_pos (by omega)]
        have:j - i=(j - (i+1))+1:=by omega
        rw [this]; rfl
      · rw [if_neg h1,if_neg (by omega)]
theorem zFi (l:List A):zBI l=mkF (numb 0 l):=by
  funext j
  rw [zIS]
  simp [zBI]
theorem zG {P:Program} {V:Env} {N:Nat} {s:SCode} {args:List A} {H:Heap} {Q:Post}
    (h:letA (numb 0 args) (hid (fun l=>svc P V N s Q (mkF l) H) ⟨⟩)):svc P V N s Q (zBI args) H:=by
  rw [zFi]; exact h
@[go_sem] theorem zVi {k:IntKind} {n:Int}:zDu (.int k n)=.d (.int k n):=Eq.trans rfl rfl
@[go_sem] theorem zSn {b:Bool}:zDu (.bool b)=.d (.bool b):=Eq.trans rfl rfl
@[go_sem] theorem zVj {s:ByteArray}:zDu (.str s)=.d (.str s):=Eq.trans rfl rfl
@[go_sem] theorem zRf {l:List D}:zDu (.slice l)=.d (.slice l):=Eq.trans rfl rfl
@[go_sem] theorem zSo {g:Nat}:zDu (.sent g)=.d (.sent g):=Eq.trans rfl rfl
@[go_sem] theorem zSX {k:IntKind} {n:Int}:D.cells (.int k n)=[.int k n]:=Eq.trans rfl rfl
@[go_sem] theorem zRC {b:Bool}:D.cells (.bool b)=[.bool b]:=Eq.trans rfl rfl
@[go_sem] theorem zSZ {s:ByteArray}:D.cells (.str s)=[.str s]:=Eq.trans rfl rfl
@[go_sem] theorem zPD {l:List D}:D.cells (.slice l)=[.slice l]:=Eq.trans rfl rfl
@[go_sem] theorem zSW {l:List D}:D.cells (.agg l)=l:=Eq.trans rfl rfl
@[go_sem] theorem zRD {g:Nat}:D.cells (.sent g)=[.sent g]:=Eq.trans rfl rfl
@[go_sem] theorem zSY {v:Value}:D.cells (.raw v)=[.raw v]:=Eq.trans rfl rfl
@[go_sem] theorem zVm {x:D}:A.cells (.d x)=x.cells.map .d:=Eq.trans rfl rfl
@[go_sem] theorem zRk {l:List A}:A.cells (.agg l)=l:=Eq.trans rfl rfl
@[go_sem] theorem zPn:A.cells .nils=[.nils]:=Eq.trans rfl rfl
@[go_sem] theorem zRl {b:Nat} {v:Value}:A.cells (.own b v)=[.own b v]:=Eq.trans rfl rfl
@[go_sem] theorem zRm {b o:Nat}:A.cells (.ref b o)=[.ref b o]:=Eq.trans rfl rfl
@[go_sem] theorem zYd {x:D}:A.good (.d x)=true:=Eq.trans rfl rfl
@[go_sem] theorem zVF {l:List A}:A.good (.agg l)=true:=Eq.trans rfl rfl
@[go_sem] theorem zTg:A.good .nils=true:=Eq.trans rfl rfl
@[go_sem] theorem zVG {b:Nat} {v:Value}:A.good (.own b v)=true:=Eq.trans rfl rfl
@[go_sem] theorem zVH {b o:Nat}:A.good (.ref b o)=true:=Eq.trans rfl rfl
def aggO:Option (List D)→List A→A
  | some ds,_=>.d (.agg ds)
  | none,cs=>.agg cs
@[go_sem] theorem zXb {cs:List A}:aggN cs=aggO (allD cs) cs:=by unfold aggN; cases allD cs <;> rfl
@[go_sem] theorem zSF {ds:List D} {cs:List A}:aggO (some ds) cs=.d (.agg ds):=Eq.trans rfl rfl
@[go_sem] theorem zSE {cs:List A}:aggO none cs=.agg cs:=Eq.trans rfl rfl
def zPG (x:D):Option (List D)→Option (List D)
  | some l=>some (x::l)
  | none=>none
@[go_sem] theorem zRF {x:D} {l:List D}:zPG x (some l)=some (x::l):=Eq.trans rfl rfl
@[go_sem] theorem zRE {x:D}:zPG x none=none:=Eq.trans rfl rfl
@[go_sem] theorem zVC:allD []=some []:=Eq.trans rfl rfl
@[go_sem] theorem zX9 {x:D} {l:List A}:allD (.d x::l)=zPG x (allD l):=by simp only [allD]; cases allD l <;> rfl
@[go_sem] theorem zSG {l:List A}:allD (.nils::l)=none:=Eq.trans rfl rfl
@[go_sem] theorem zOQ {s:ByteArray} {x:D}:D.withCells (.str s) [x]=x:=Eq.trans rfl rfl
attribute [go_sem] List.map_cons List.map_nil List.length_cons List.length_nil List.getElem?_cons_succ List.getElem?_cons_zero List.drop_succ_cons List.drop_zero List.take_succ_cons List.take_zero List.cons_append List.nil_append List.append_nil decide_true and_true true_and Option.map_some Option.map_none List.set_cons_zero List.set_cons_succ
@[go_sem] theorem zXW:List.range 0=[]:=Eq.trans rfl rfl
@[go_sem] theorem zSi {P:Program} {V:Env} {N:Nat} {F:Nat→A} {H:Heap}:yX P V N F H []=True:=Eq.trans rfl rfl
@[go_sem] theorem zQ1 {P:Program} {V:Env} {N:Nat} {F:Nat→A} {H:Heap} {d:Nat} {gd:Option (Option Nat×Bool)} {op:Op} {js:List SOper}:yX P V N F H ({ dst:=some d,gd:=gd,op:=op }::js) =
    (letA (F d) (hid (fun z=>yT N F { dst:=some d,gd:=gd,op:=op } (hid (aopO P V N op F H (hid (fun y _=>y=z) ⟨⟩) noP) ⟨⟩) (hid (z=.tup []) ⟨⟩)) ⟨⟩)∧yX P V N F H js):=Eq.trans rfl rfl
@[go_sem] theorem zPo {F:Nat→A}:FrameIs F []=True:=Eq.trans rfl rfl
@[go_sem] theorem zOR {F:Nat→A} {s:Nat} {x:A} {l:List (Nat×A)}:FrameIs F ((s,x)::l)=(F s=x∧FrameIs F l):=Eq.trans rfl rfl
def xH (V:Env) (N:Nat) {X:Type} (l:X→List (Nat×A)) (J:X→Heap→Prop) (m:X→Nat) (x:X) (F':Nat→A) (H':Heap):Prop :=
  turn V N F' H' fun F' H'=>∃ x' H'',J x' H''∧m x' < m x∧FrameIs F' (l x')∧LeH H'' H'
theorem zP {V:Env} {N:Nat} {X:Type} {l:X→List (Nat×A)} {J:X→Heap→Prop} {m:X→Nat} {x:X} {F':Nat→A} {H':Heap} (x':X) (H'':Heap) (h1:J x' H'') (h2:m x' < m x) (h3:FrameIs F' (l x')) (h4:LeH H'' H'):xH V N l J m x F' H' :=
  turn.refl ⟨x',H'',h1,h2,h3,h4⟩
theorem yP {P:Program} {V:Env} {N:Nat} {c:SCode} {Q:Post} {F:Nat→A} {H:Heap} {X:Type} (l:X→List (Nat×A)) (J:X→Heap→Prop) (m:X→Nat) (x0:X) (H0:Heap)
    (h0:J x0 H0) (hF:FrameIs F (l x0)) (hH:LeH H0 H)
    (h:∀ x H,J x H→letA (l x) (hid (fun fl=>svc P V N c (wD (hid (fun F' H'=>xH V N l J m x F' H') ⟨⟩) Q) (mkF fl) H) ⟨⟩)):svc P V N (.loop c) Q F H :=
  turn.refl ⟨X,l,J,m,x0,H0,h0,hF,hH,h⟩
theorem zDM {H:Heap} {b k:Nat} {o:AObj} (h:upd H b o k=none):H k=none:=by
  unfold upd at h; split at h
  · cases h
  · exact h
theorem zO {G H:Heap} {b:Nat} {o:AObj} (hb:G b=none) (h:LeH G H):LeH G (upd H b o):=by
  intro k x hx
  unfold upd
  split
  · rename_i e; subst e; rw [hb] at hx; cases hx
  · exact h k x hx
theorem jF {G H:Heap} {b:Nat} {o:AObj} (h:LeH G H):LeH (upd G b o) (upd H b o):=by
  intro k x hx
  unfold upd at hx ⊢
  split at hx
  · rename_i e; rw [if_pos e]; exact hx
  · rename_i e; rw [if_neg e]; exact h k x hx
theorem zHV {G H:Heap} {b:Nat} (hb:G b=none) (h:LeH G H):LeH G (del H b):=by
  intro k x hx
  unfold del
  split
  · rename_i e; subst e; rw [hb] at hx; cases hx
  · exact h k x hx
def eqn (a b:Nat):Bool:=decide (a=b)
@[go_sem] theorem zIG {a:Nat}:eqn a a=true:=by simp [eqn]
theorem zA5 {a b:Nat} (h:a≠b):eqn a b=false:=by simp [eqn,h]
@[go_sem] theorem zVk {H:Heap} {b k:Nat} {o:AObj}:upd H b o k=cnd (eqn k b) (some o) (hid (H k) ⟨⟩):=by
  simp only [upd,cnd,eqn,hid,decide_eq_true_eq]
theorem qG {H:Heap} {b:Nat} (h:H b=none) (r:Nat) (hr:(H r).isSome=true):eqn r b=false :=
  zA5 (by rintro rfl; rw [h] at hr; cases hr)
theorem zGP {H:Heap} {b:Nat} (h:H b=none) (r:Nat) (hr:(H r).isSome=true):eqn b r=false :=
  zA5 (by rintro rfl; rw [h] at hr; cases hr)
theorem yL {H:Heap} {f:Nat→Prop} {l:Lk f} (h:∀ b,H b=none→(∀ r,(H r).isSome=true→eqn r b=false)→(∀ r,(H r).isSome=true→eqn b r=false)→f b):newK H (hid f l) :=
  fun b hb=>h b hb (qG hb) (zGP hb)
theorem yO {H:Heap} {f:Nat→Value→Prop} {l:Lk f} (h:∀ b v,H b=none→(∀ r,(H r).isSome=true→eqn r b=false)→(∀ r,(H r).isSome=true→eqn b r=false)→v.ownBlock=some b→f b v):newV H (hid f l) :=
  fun b v hb hv=>h b v hb (qG hb) (zGP hb) hv
theorem qR {H:Heap} {b0:Nat} {f:Nat→Value→Prop} {l:Lk f} (h:∀ b v,(b=b0∨H b=none)→(∀ r,(del H b0 r).isSome=true→eqn r b=false)→(∀ r,(del H b0 r).isSome=true→eqn b r=false)→v.ownBlock=some b→f b v):wP H b0 (hid f l) :=
  fun b v hb hv=>h b v hb
    (fun r hr=>zA5 (by rintro rfl; unfold del at hr; split at hr <;> simp_all))
    (fun r hr=>zA5 (by rintro rfl; unfold del at hr; split at hr <;> simp_all)) hv
theorem upd_eq_none {H:Heap} {b k:Nat} {o:AObj}:upd H b o k=none↔k≠b∧H k=none:=by
  unfold upd; split <;> simp_all
theorem del_eq_none {H:Heap} {b k:Nat}:del H b k=none↔k=b∨H k=none:=by
  unfold del; split <;> simp_all
def nilQ (es:List D) (K:Bool→Prop):Prop:=K false∧(es=[]→K true)
theorem zAE {es:List D} {K:Bool→Prop} {l:Lk K} (h1:K false) (h2:es=[]→K true):nilQ es (hid K l):=⟨h1,h2⟩
attribute [go_sem] Option.isSome_some Option.isSome_none
theorem jP {n:Int} (h1:-9223372036854775808≤n) (h2:n < 9223372036854775808):IntKind.i64.wrap n=n:=by
  rw [IntKind.wrap_i64]; omega
def zF:List (Nat×Plan)→Nat→Plan
  | [],_=>.done
  | (i,p)::l,k=>if k=i then p else zF l k
def zE:List (Nat×List Nat)→Nat→Option (List Nat)
  | [],_=>some []
  | (i,p)::l,k=>if k=i then some p else zE l k
section
variable {P:Program} {V:Env} {N:Nat} {F:Nat→A} {H:Heap} {K:A→Prop} {KH:A→Heap→Prop} {KU:Heap→Prop} {KP:Value→Heap→Prop}
attribute [go_sem] Bool.and_true
end
end Go.Aug

/-
  The abstract layer, part V: a row that is appended to, round by round.
-/
namespace Go.Aug
def AccAt (G:Heap) (E:TypeId) (sz:Nat) (l:List D) (a:A) (H:Heap):Prop :=
  LeH G H∧((l=[]∧a=.nils)∨∃ b v,a=.own b v∧G b=none∧v.ownBlock=some b∧H b=some (.arr E sz v l))
theorem AccAt.nils (G:Heap) (E:TypeId) (sz:Nat):AccAt G E sz [] .nils G:=⟨.refl _,.inl ⟨rfl,rfl⟩⟩
theorem AccAt.own {G H:Heap} {E:TypeId} {sz:Nat} {l:List D} {b:Nat} {v:Value} (hle:LeH G H) (hb:G b=none) (hv:v.ownBlock=some b) (hH:H b=some (.arr E sz v l)):AccAt G E sz l (.own b v) H :=
  ⟨hle,.inr ⟨b,v,rfl,hb,hv,hH⟩⟩
theorem LeH.free {G H:Heap} (h:LeH G H) {b:Nat} (hb:H b=none):G b=none:=by
  cases hg:G b with
  | none=>rfl
  | some o=>rw [h b o hg] at hb; cases hb
theorem LeH.up {G H:Heap} {b:Nat} {o:AObj} (h:LeH G H) (hb:H b=none):LeH G (upd H b o):=zO (h.free hb) h
theorem AccAt.up {G H:Heap} {E:TypeId} {sz:Nat} {l:List D} {a:A} (h:AccAt G E sz l a H) {b:Nat} {o:AObj} (hb:H b=none):AccAt G E sz l a (upd H b o):=by
  obtain ⟨hle,h⟩:=h
  refine ⟨hle.up hb, ?_⟩
  rcases h with h | ⟨c,v,ha,hc,hv,hH⟩
  · exact .inl h
  · refine .inr ⟨c, v, ha, hc, hv, ?_⟩
    unfold upd
    split
    · rename_i e; subst e; rw [hb] at hH; cases hH
    · exact hH
theorem AccAt.le {G H:Heap} {E:TypeId} {sz:Nat} {l:List D} {a:A} (h:AccAt G E sz l a H):LeH G H:=h.1
theorem jA {G H:Heap} {E:TypeId} {sz by_:Nat} {l ns:List D} {a:A} {K:A→Heap→Prop} (h:AccAt G E sz l a H) (hsz:(l.length+ns.length) * by_≤140737488355328)
    (hK:∀ a' H',AccAt G E sz (l++ns) a' H'→K a' H'):appTo a ns E sz by_ H K:=by
  obtain ⟨hle,⟨rfl,rfl⟩ | ⟨b,v,rfl,hb,hv,hH⟩⟩:=h
  · refine zDZ (by simpa using hsz) ?_ ?_
    · rintro rfl; exact hK _ _ ⟨hle,.inl ⟨rfl,rfl⟩⟩
    · intro _ b v hb hv
      exact hK _ _ (AccAt.own (hle.up hb) (hle.free hb) hv (by simp [upd]))
  · simp only [appTo, hH, true_and]
    refine ⟨hsz, ?_⟩
    intro b' v' hb' hv'
    have hg:G b'=none:=by rcases hb' with rfl | hb'; exact hb; exact hle.free hb'
    exact hK _ _ (AccAt.own (zO hg (zHV hb hle)) hg hv' (by simp [upd]))
theorem zI7 {V:Env} {G H:Heap} {E:TypeId} {sz:Nat} {l:List D} {a:A} {K:A→Heap→Prop} (h:AccAt G E sz l a H) (hK:K (.d (.slice l)) G):retW V a H K:=by
  obtain ⟨hle,⟨rfl,rfl⟩ | ⟨b,v,rfl,hb,hv,hH⟩⟩:=h
  · refine zZ ?_
    simp only [zBq]
    exact zB hle (zC hK)
  · refine zZ ?_
    simp only [xG,hH]
    exact ⟨trivial,zB (zO hb hle) (zC hK)⟩
theorem AccAt.deep {G H:Heap} {E:TypeId} {sz:Nat} {l:List D} {a:A} {K:D→Heap→Prop} (h:AccAt G E sz l a H) (hK:∀ H',LeH G H'→K (.slice l) H'):xG H a K:=by
  obtain ⟨hle,⟨rfl,rfl⟩ | ⟨b,v,rfl,hb,hv,hH⟩⟩:=h
  · simp only [zBq]; exact hK _ hle
  · simp only [xG,hH]; exact ⟨trivial,hK _ (zO hb hle)⟩
theorem zEf {P:Program} {t:TypeId} {G H:Heap} {E:TypeId} {sz:Nat} {l:List D} {a:A} (h:AccAt G E sz l a H) (ht:wH P t=true):lenable P t a=true:=by
  obtain ⟨hle,⟨rfl,rfl⟩ | ⟨b,v,rfl,hb,hv,hH⟩⟩:=h
  · rw [zDd,ht]
  · rw [zEg,ht]
@[go_sem] theorem zRK {ms:List Bool} {H:Heap} {K:List A→Heap→Prop}:frzM ms H [] K=K [] H:=by
  rcases ms with _ | ⟨m,ms⟩
  · simp only [frzM]
  · cases m <;> simp only [frzM]
theorem uF {H:Heap} {b:Nat} {o o':AObj}:upd (upd H b o) b o'=upd H b o':=by
  funext k; unfold upd; split <;> rfl
theorem zDL {H:Heap} {b c:Nat} {o o':AObj} (h:b≠c):upd (upd H b o) c o'=upd (upd H c o') b o:=by
  funext k; unfold upd; split <;> split <;> simp_all
theorem AccAt.set {G H:Heap} {E:TypeId} {sz:Nat} {l:List D} {a:A} (h:AccAt G E sz l a H) {b:Nat} {o o':AObj} (hb:G b=some o):AccAt (upd G b o') E sz l a (upd H b o'):=by
  obtain ⟨hle,h⟩:=h
  refine ⟨jF hle, ?_⟩
  rcases h with h | ⟨c,v,ha,hc,hv,hH⟩
  · exact .inl h
  · have : c ≠ b := by rintro rfl; rw [hb] at hc; cases hc
    exact .inr ⟨c,v,ha,by simp [upd,this,hc],hv,by simp [upd,this,hH]⟩
theorem AccAt.some {G H:Heap} {E:TypeId} {sz:Nat} {l:List D} {a:A} (h:AccAt G E sz l a H) (hl:l≠[]):∃ b v,a=.own b v∧G b=none∧v.ownBlock=Option.some b∧H b=Option.some (.arr E sz v l):=by
  rcases h.2 with ⟨h1,_⟩ | h
  · exact absurd h1 hl
  · exact h

section
variable {V:Env} {w:World} {Z:Nat→Prop} {P:Program}
variable {H:Type} {enc:TypeId×Value→H}
end
end Go.Aug

/-
  The abstract layer: what is read as data is a deep value of its type's shape, and no larger than the reading (a measure of the reading that counts each value and each letter).
-/
namespace Go.Aug
mutual
def D.size:D→Nat
  | .str s=>s.size+1
  | .slice es=>D.sizes es+1
  | .agg cs=>D.sizes cs+1
  | _=>1
def D.sizes:List D→Nat
  | []=>0
  | d::r=>D.size d+D.sizes r
end
theorem D.sizes_append:∀ (a b:List D),D.sizes (a++b)=D.sizes a+D.sizes b
  | [],b=>by simp [D.sizes]
  | x::a,b=>by simp only [List.cons_append,D.sizes,D.sizes_append a b]; omega
theorem D.one_le:∀ d:D,1≤d.size
  | .bool _ | .int _ _ | .sent _ | .raw _=>by simp [D.size]
  | .str _ | .slice _ | .agg _=>by simp [D.size]
theorem D.length_le:∀ l:List D,l.length≤D.sizes l
  | []=>by simp [D.sizes]
  | d::l=>by have:=D.one_le d; have:=D.length_le l; simp only [List.length_cons,D.sizes]; omega
theorem D.mem_le:∀ {l:List D} {d:D},d ∈ l→d.size≤D.sizes l
  | x::l,d,h=>by
    rcases List.mem_cons.1 h with rfl | h
    · simp only [D.sizes]; omega
    · have:=D.mem_le h; simp only [D.sizes]; omega
section
variable {V:Env} {w:World} {Z:Nat→Prop} {P:Program}
variable {H:Type} {enc:TypeId×Value→H} {f:DataW H→Nat}
end
end Go.Aug

/-
  The abstract layer: what a row's list of package variables (errors made by errors.New) gives the environment.
-/
namespace Go.Aug
open Go.ChangeShapes Go.RowKit
theorem zIP {P:Program} {W:World}:∀ {L:List (String×DataW Unit)},laidMet P L W→∀ x ∈ L,laidMet P [x] W
  | [],_,x,h=>by cases h
  | y::L,h,x,hx=>by
    rcases List.mem_cons.1 hx with rfl | hx
    · obtain ⟨ps, hv, hnd, hrows⟩ := h
      obtain ⟨n,d⟩:=x
      obtain ⟨g,t,cs,fuel,p,q,e1,e2,e3,e4,hq,rfl⟩:=hv
      exact ⟨_,⟨g,t,cs,fuel,p,[],e1,e2,e3,e4,rfl,rfl⟩,List.Nodup.sublist (by simp) hnd,fun b off hm=>hrows b off (List.mem_append_left _ (by simpa using hm))⟩
    · exact zIP h.tail x hx
theorem zNb {P:Program} {W:World} {L:List (String×DataW Unit)} {name:String} {k:IntKind} {zs:List Int} {g:Nat} {t e:TypeId} {n:Nat}
    (h:laidMet P L W) (hm:(name,Lib.tabData k zs) ∈ L)
    (hg:P.globalNamed name=some g) (hty:(P.globals[g]?).map (·.type)=some t) (ht:P.underlying t=some (.array n e)) (he:P.underlying e=some (.int k)) (hce:P.cellsOf e=1) (hct:P.cellsOf t=n) :
    ∃ T fr,W.heap[g]?=some (.cells (zs.map fun z=>Value.int k z).toArray T fr):=by
  have:=Lib.tabIs_of_head hg hty ht he hce hct (zIP h _ hm)
  unfold Lib.TabIs World.var? at this
  simp only [hg,Option.bind_some] at this
  split at this
  · rename_i cs T fr hh
    simp only [Option.some.injEq] at this
    exact ⟨T,fr,by rw [hh,this]⟩
  · cases this
def zDP (P:Program) (ti:TypeId) (g:Nat) (x:String×DataW Unit):Prop :=
  P.globalNamed x.1=some g∧(P.globals[g]?).map (·.type)=some ti∧∃ s,x.2=.iface "*errors.errorString" (.ptr (.agg [.lit (.string s)]))
theorem zFp {P:Program} {W:World} {ti tp te ts:TypeId} {ms:Array (String×TypeId)} {f:Field}
    (hi:P.underlying ti=some (.interface ms)) (hrow:∀ u,P.typeName? 3 u=some "*errors.errorString" → u=tp)
    (hp:P.underlying tp=some (.pointer te)) (he:P.underlying te=some (.struct #[f])) (hft:f.type=ts) (hfo:f.offset=0) (hs:P.underlying ts=some .string) (hc:P.cellsOf te=1) (hcs:P.cellsOf ts=1) :
    ∀ (L:List (String×DataW Unit)) (ps:List MemPlace),DataW.LaidVars P W L ps→ps.Nodup →
      (∀ b off,MemPlace.cell b off ∈ ps→(∃ c t,W.heap[b]?=some (.cells c t (0,0)))∧∀ u v,W.cell? ⟨b,off,none⟩=some (.iface u v)→Value.okWide P W .any 0 u v) →
      ∃ eb:Nat→Addr,(∀ x ∈ L,∀ g,zDP P ti g x→W.cell? ⟨g,0,none⟩=some (.iface tp (.pointer (some (eb g))))∧(∃ c t,W.heap[(eb g).block]?=some (.cells c t (0,0)))∧.cell g 0 ∈ ps∧.cell (eb g).block (eb g).off ∈ ps) ∧
        (∀ x ∈ L,∀ y ∈ L,∀ g g',zDP P ti g x→zDP P ti g' y→eb g=eb g'→g=g')
  | [],ps,_,_,_=>⟨fun _=>⟨0,0,none⟩,⟨fun x hx=>(List.not_mem_nil hx).elim,fun x hx=>(List.not_mem_nil hx).elim⟩⟩
  | (n,d)::L,ps,hv,hnd,hrows=>by
    obtain ⟨g0,t0,cs0,f0,p0,q0,hg0,ht0,hv0,hd0,hq,rfl⟩:=hv
    have hnd':=hnd
    rw [List.nodup_append] at hnd
    obtain ⟨hnd1,hnd2,hdis⟩:=hnd
    obtain ⟨eb,h1,h2⟩:=zFp hi hrow hp he hft hfo hs hc hcs L q0 hq hnd2 (fun b off hm=>hrows b off (List.mem_append_right _ hm))
    by_cases hS:∃ g,zDP P ti g (n,d)
    · obtain ⟨g, hg, ht, s, hd⟩ := hS
      obtain rfl:=Option.some.inj (hg.symm.trans hg0)
      obtain rfl:=Option.some.inj (ht.symm.trans ht0)
      simp only at hd
      subst hd
      obtain ⟨l0⟩:=cs0
      have ok0:∀ u v,l0=[.iface u v]→Value.okWide P W .any 0 u v:=fun u v e=>by
        subst e
        exact (hrows g 0 (by simp [MemPlace.row])).2 u v (by simpa using World.var?_cell hg0 hv0 0)
      obtain ⟨a0,s0,rfl,hc0,hs0,hz0,rfl⟩:=errorString_of_trod hi hrow hp he hft hfo hs hc hcs hd0 ok0
      have m1:MemPlace.cell g 0 ∈ MemPlace.row ⟨g,0,none⟩ (Array.mk [Value.iface tp (.pointer (some a0))]).size++MemPlace.row a0 1:=by simp [MemPlace.row]
      have m2:MemPlace.cell a0.block a0.off ∈ MemPlace.row ⟨g,0,none⟩ (Array.mk [Value.iface tp (.pointer (some a0))]).size++MemPlace.row a0 1:=by simp [MemPlace.row]
      refine ⟨fun k=>if k=g then a0 else eb k, ?_, ?_⟩
      · intro x hx k hk
        rcases List.mem_cons.1 hx with rfl | hx
        · obtain rfl := Option.some.inj (hk.1.symm.trans hg0)
          simp only [if_true]
          exact ⟨by simpa using World.var?_cell hg0 hv0 0,(hrows _ _ (List.mem_append_left _ m2)).1,List.mem_append_left _ m1,List.mem_append_left _ m2⟩
        · obtain ⟨q1, q2, q3, q4⟩ := h1 x hx k hk
          have hne:k≠g:=fun e=>by subst e; exact hdis _ m1 _ q3 rfl
          simp only [if_neg hne]
          exact ⟨q1,q2,List.mem_append_right _ q3,List.mem_append_right _ q4⟩
      · intro x hx y hy k k' hk hk' e
        simp only at e
        rcases List.mem_cons.1 hx with rfl | hx <;> rcases List.mem_cons.1 hy with rfl | hy
        · exact Option.some.inj (hk.1.symm.trans hk'.1)
        · obtain rfl := Option.some.inj (hk.1.symm.trans hg0)
          obtain ⟨q1,q2,q3,q4⟩:=h1 y hy k' hk'
          by_cases hne:k'=k
          · exact hne.symm
          · rw [if_pos rfl, if_neg hne] at e
            rw [←e] at q4
            exact absurd rfl (hdis _ m2 _ q4)
        · obtain rfl := Option.some.inj (hk'.1.symm.trans hg0)
          obtain ⟨q1,q2,q3,q4⟩:=h1 x hx k hk
          by_cases hne:k=k'
          · exact hne
          · rw [if_pos rfl, if_neg hne] at e
            rw [e] at q4
            exact absurd rfl (hdis _ m2 _ q4)
        · have n1 : k ≠ g := fun e => by subst e; exact hdis _ m1 _ (h1 x hx _ hk).2.2.1 rfl
          have n2:k'≠g:=fun e=>by subst e; exact hdis _ m1 _ (h1 y hy _ hk').2.2.1 rfl
          rw [if_neg n1,if_neg n2] at e
          exact h2 x hx y hy k k' hk hk' e
    · refine ⟨eb, ?_, ?_⟩
      · intro x hx k hk
        rcases List.mem_cons.1 hx with rfl | hx
        · exact absurd ⟨k,hk⟩ hS
        · obtain ⟨q1, q2, q3, q4⟩ := h1 x hx k hk
          exact ⟨q1,q2,List.mem_append_right _ q3,List.mem_append_right _ q4⟩
      · intro x hx y hy k k' hk hk' e
        rcases List.mem_cons.1 hx with rfl | hx
        · exact absurd ⟨k,hk⟩ hS
        · rcases List.mem_cons.1 hy with rfl | hy
          · exact absurd ⟨k',hk'⟩ hS
          · exact h2 x hx y hy k k' hk hk' e
theorem zNa {P:Program} {W:World} {ti tp te ts TE:TypeId} {ms:Array (String×TypeId)} {f:Field}
    (hi:P.underlying ti=some (.interface ms)) (hrow:∀ u,P.typeName? 3 u=some "*errors.errorString" → u=tp)
    (hp:P.underlying tp=some (.pointer te)) (he:P.underlying te=some (.struct #[f])) (hft:f.type=ts) (hfo:f.offset=0) (hs:P.underlying ts=some .string) (hc:P.cellsOf te=1) (hcs:P.cellsOf ts=1)
    {L:List (String×DataW Unit)} (h:laidMet P L W) (G:Nat→Option D)
    (hG:∀ g x,G g=some x→x=.sent g∧∃ y ∈ L,zDP P ti g y) :
    ∃ eb:Nat→Addr,∀ (B:Nat→Bool) (nz:TypeId→Bool) (pan:FuncId→Bool),EnvOK ⟨tp,TE,eb,G,fun b=>if B b then W.heap[b]? else none,nz,pan⟩ W (fun _=>False):=by
  obtain ⟨ps,hv,hnd,hrows⟩:=h
  obtain ⟨eb,h1,h2⟩:=zFp hi hrow hp he hft hfo hs hc hcs L ps hv hnd hrows
  refine ⟨eb,fun B nz pan=>⟨?_, ?_, ?_, ?_⟩⟩
  · intro g x hg
    obtain ⟨rfl,y,hy,hs⟩:=hG g x hg
    obtain ⟨q1,_,_,_⟩:=h1 y hy g hs
    exact ⟨id,World.block_lt_of_cell? W _ q1,_,q1,rfl,.sent (V:=⟨tp,TE,eb,G,fun b=>if B b then W.heap[b]? else none,nz,pan⟩) g⟩
  · intro g hg
    obtain ⟨_,y,hy,hs⟩:=hG g _ hg
    obtain ⟨_,⟨c,t,hb⟩,_,_⟩:=h1 y hy g hs
    exact ⟨id,(Array.getElem?_eq_some_iff.1 hb).1,c,t,hb⟩
  · intro g g' hg hg' e
    obtain ⟨_,y,hy,hs⟩:=hG g _ hg
    obtain ⟨_,y',hy',hs'⟩:=hG g' _ hg'
    exact h2 y hy y' hy' g g' hs hs' e
  · intro b o hb
    simp only at hb
    split at hb
    · exact ⟨id,(Array.getElem?_eq_some_iff.1 hb).1,hb⟩
    · cases hb
end Go.Aug

/-
  The abstract layer: the bridge from a row's condition to a contract, for every program.
-/
namespace Go.Aug
open Go.ChangeShapes Go.WideShapes Go.RowKit
section
variable {P:Program} {n:Nat} {t e:TypeId} {ds:List D}
end
theorem zMK {Z':Nat→Prop} {H':Heap} {W W':World} (x:Ext (fun _=>False) (fun _=>none) W Z' H' W'):Below W.heap.size W W' :=
  ⟨x.os,x.tape,x.output,x.size,fun k hk=>x.block k hk (fun ⟨_,h,_⟩=>by cases h)⟩
end Go.Aug

/-
  The abstract layer, part X: what is handed back out of a variable. (LiveT has these lines, too: never both in one claim.)
-/
namespace Go.Aug
def resD:Option AObj→Nat→Option (Bool×Nat)→Option A
  | some (.var cs),off,some (true,n)=>if off+n≤cs.length then some (aggN ((cs.drop off).take n)) else none
  | some (.var cs),off,some (false,_)=>cs[off]?
  | _,_,_=>none
def resC:A→Heap→Option (Bool×Nat)→Option A
  | .ref b off,H,s=>resD (H b) off s
  | _,_,_=>none
@[go_sem] theorem zSg {P:Program} {V:Env} {N:Nat} {F:Nat→A} {H:Heap} {a:Nat} {t:TypeId}:zGe P V N F H (.cell a t)=resC (ev V N F (.tmp a)) H (yN P t):=by
  simp only [zGe]
  generalize ev V N F (.tmp a)=x
  cases x with
  | ref b off =>
    simp only [resC]
    generalize H b=o
    cases o with
    | none=>rfl
    | some o =>
      cases o with
      | var cs =>
        cases yN P t with
        | none=>rfl
        | some s=>obtain ⟨g,n⟩:=s; cases g <;> rfl
      | _=>rfl
  | _=>rfl
@[go_sem] theorem zWR {b off:Nat} {H:Heap} {s:Option (Bool×Nat)}:resC (.ref b off) H s=resD (H b) off s:=Eq.trans rfl rfl
@[go_sem] theorem zOx {cs:List A} {off n:Nat} (h:off+n≤cs.length):resD (some (.var cs)) off (some (true,n))=some (aggN ((cs.drop off).take n)):=if_pos h
@[go_sem] theorem zWS {cs:List A} {off n:Nat}:resD (some (.var cs)) off (some (false,n))=cs[off]?:=Eq.trans rfl rfl
end Go.Aug

/-
  The abstract layer: calls whose world behind is known to be no other below; functions that defer one closure.
-/
namespace Go.Aug
open Go.RowKit
section
variable {P:Program} {V:Env} {N:Nat} {Z:Nat→Prop} {H:Heap} {w w':World}
theorem Mem.below (m:Mem V Z H w) (b:Below w.heap.size w w'):Mem V Z H w'∧Ext Z H w Z H w':=by
  have k:Keeps Z w Z w':=⟨b.size,fun i hi _=>b.block i hi,fun _ _ h h'=>h h'⟩
  refine ⟨⟨fun i o ho=>(m.heap i o ho).keep k fun hw=>⟨m.own i ⟨o,ho,hw⟩,b.block i (m.lt i o ho)⟩,fun i hi=>Nat.lt_of_lt_of_le (m.zlt i hi) b.size,m.env.keep k,fun i o ho=>Nat.lt_of_lt_of_le (m.lt i o ho) b.size⟩, ?_⟩
  exact ⟨b.os,b.tape,b.output,b.size,fun i hi _=>b.block i hi,fun i hi=>.inl hi,fun i hi _=>hi,fun i hi=>.inl hi⟩
theorem ACall.keep {f:FuncId} {args:List A} {K:A→Prop} (h:ACall P V f args (fun _=>none) (fun r _=>K r)):ACall P V f args H (fun r H'=>K r∧H'=H):=by
  intro Z w cv hl hr m
  have no:∀ b,¬ Own (fun _=>none) b:=fun b ⟨o,ho,_⟩=>by cases ho
  refine (h Z w cv hl hr (m.le fun b o hb=>by cases hb)).mono ?_
  rintro e w' ⟨v,r,Z',H',rfl,rr,m',x',k⟩
  have kk:Keeps Z w Z' w':=x'.keeps (fun b hb=>(no b hb).elim)
  refine ⟨v,r,Z',H,rfl,rr,⟨?_,m'.zlt,m'.env,fun b o hb=>Nat.lt_of_lt_of_le (m.lt b o hb) x'.size⟩, ?_,k,rfl⟩
  · intro b o hb
    exact (m.heap b o hb).keep kk fun hw=>⟨x'.zold b (m.own b ⟨o,hb,hw⟩) (no b),x'.block b (m.lt b o hb) (no b)⟩
  · exact ⟨x'.os,x'.tape,x'.output,x'.size,fun b hb _=>x'.block b hb (no b),x'.znew,fun b hz _=>x'.zold b hz (no b),fun b hb=>.inl hb⟩
def zHC (P:Program) (k:Nat) (g:FuncId):Prop:=∀ (cv:Array Value) (w:World),cv.size=k→CallsDIn (wQ none) 0 P g cv .returning w fun e u w'=>e=.returned (.tuple #[])∧u=.returning∧Below w.heap.size w w'
theorem zAX {plans:Nat→Plan} {keeps:Nat→Option (List Nat)} {c:Code} {x y:SCode} (h:toS plans keeps c=.seq x y):∃ a b,c=.seq a b∧toS plans keeps a=x∧toS plans keeps b=y:=by
  cases c with
  | seq a b=>simp only [toS,SCode.seq.injEq] at h; exact ⟨a,b,rfl,h.1,h.2⟩
  | region id ops g=>cases g <;> simp [toS] at h
  | _=>simp [toS] at h
theorem zIn {plans:Nat→Plan} {keeps:Nat→Option (List Nat)} {c:Code} {k:Option (List Nat)} {l:List SOper} (h:toS plans keeps c=.reg k l):∃ id ops,c=.region id ops false∧ops.toList.map (short ops)=l:=by
  cases c with
  | region id ops g =>
    cases g with
    | false=>simp only [toS,SCode.reg.injEq] at h; exact ⟨id,ops,rfl,h.2⟩
    | true=>simp [toS] at h
  | seq a b=>simp [toS] at h
  | _=>simp [toS] at h
theorem St.defer {ds:Df} {F:Nat→A} {a:Act} (s:St V N ds Z F H a w) (d:Deferred):St V N ⟨d::a.defers,w.heap.size⟩ Z F H { a with defers:=d::a.defers } w :=
  ⟨.none _ (Nat.le_refl _),s.size,s.slots,s.mem⟩
theorem zJk {ds:Df} {F:Nat→A} {a:Act} {id g s:Nat} {ops:Array Oper} {caps:Array Operand} {Q:Exit→Act→World→Prop} (st:St V N ds Z F H a w) (hs:s < N)
    (ho:ops.toList.map (short ops)=[{ dst:=some s,gd:=none,op:=.makeFunc (.func g) #[] caps },{ dst:=none,gd:=none,op:=.defer { callee:=.value (.tmp s),args:=#[],argTypes:=#[] } }])
    (hq:∀ a' cv,cv.size=caps.size→(∃ l:List Value,cv=l.toArray∧l.length=(caps.toList.map (ev V N F)).length∧∀ j (h:j < l.length) (h':j < (caps.toList.map (ev V N F)).length),RepA V w Z l[j] (caps.toList.map (ev V N F))[j])→St V N ⟨{ target:=.fn (.func g) cv,args:=#[] }::a.defers,w.heap.size⟩ Z (updF F s (.func g (caps.toList.map (ev V N F)))) H a' w→Q .normal a' w):(Code.region id ops false).wp P Q a w:=by
  obtain ⟨l⟩:=ops
  match l,ho with
  | [o1,o2],ho =>
    simp only [List.map_cons,List.map_nil,List.cons.injEq,and_true,short,SOper.mk.injEq] at ho
    obtain ⟨⟨h1,h2,h3⟩,h4,h5,h6⟩:=ho
    have g1:o1.guard=none:=by simpa using h2
    have g2:o2.guard=none:=by simpa using h5
    refine wp_region ?_
    have hr:List.range (#[o1,o2]:Array Oper).size=[0,1]:=rfl
    have e0:(#[o1,o2]:Array Oper)[0]?=some o1:=rfl
    have e1:(#[o1,o2]:Array Oper)[1]?=some o2:=rfl
    rw [hr]
    have w1:∀ y,Region.wanted o1 y=true:=fun y=>by unfold Region.wanted; rw [g1]
    have w2:∀ y,Region.wanted o2 y=true:=fun y=>by unfold Region.wanted; rw [g2]
    simp only [wpOps,e0,e1,w1,w2,if_true]
    left
    have hl:=zCJ st caps.toList
    have rf:RepA V w Z (.func (.func g) #[] (caps.toList.map a.eval).toArray) (.func g (caps.toList.map (ev V N F))):=.func g _ _ hl.1 hl.2
    have k:=st.mem.keeps (Ext.refl Z H w)
    have s1:=st.put (o:=some s) k st.mem rf
    have hx1:(execOp a.eval o1).run P w=.ok (.value (.func (.func g) #[] (caps.toList.map a.eval).toArray)) w:=by
      have:caps.map a.eval=(caps.toList.map a.eval).toArray:=by cases caps; simp
      unfold execOp
      rw [h3]
      simp [Instr.makeFunc,this]
    unfold Oper.wp
    rw [hx1,Oper.upon_value]
    rw [h1]
    left
    have ev1:(a.put (some s) (.func (.func g) #[] (caps.toList.map a.eval).toArray)).eval (.tmp s)=.func (.func g) #[] (caps.toList.map a.eval).toArray:=by
      have hsz:s < a.tmps.size:=by rw [st.size]; exact hs
      simp [Act.put,Act.eval,hsz]
    have hx:(execOp (a.put (some s) (.func (.func g) #[] (caps.toList.map a.eval).toArray)).eval o2).run P w=.ok (.defer { target:=.fn (.func g) (caps.toList.map a.eval).toArray,args:=#[] }) w:=by
      unfold execOp
      rw [h6]
      simp [resolve,ev1,Deferred.ofValue]
    rw [hx,Oper.upon_defer,h4]
    exact hq _ _ (by simp) ⟨_,rfl,hl.1,hl.2⟩ (s1.defer _)
  | [],ho=>simp at ho
  | [_],ho=>simp at ho
  | _::_::_::_,ho=>simp at ho
theorem St.ends {fn:Func} {ls:List Deferred} {B:Nat} {a':Act} {F:Nat→A} {K:A→Heap→Prop} {w0:World} {Z0:Nat→Prop} {H0:Heap} (m0:Mem V Z0 H0 w0) (st:St V fn.ntmps ⟨ls,B⟩ Z F H a' w)
    (q:match vJ P V fn.ntmps F H fn.results.toList with | some rs=>retW V (jL rs) H K | none=>False)
    (hds:(ls=[]∧B=w0.heap.size∧Ext Z0 H0 w0 Z H w)∨∃ g cv l3 Z3 H3 w3,zHC P cv.size g∧(∀ w1,(invoke (.fn (.func g) cv) #[]).run P w1=.ok (.enter g cv) w1)∧ls={ target:=.fn (.func g) cv,args:=#[] }::l3 ∧
      Marked V.M w0.heap.size Z3 w3 l3 []∧B=w3.heap.size∧Mem V Z3 H3 w3∧Ext Z0 H0 w0 Z3 H3 w3∧Ext Z3 H3 w3 Z H w) :
    LeavesInM (wQ none) 0 P fn a'.tmps (fun e w'=>∃ v r Z' H',e=.returned v∧RepA V w' Z' v r∧Mem V Z' H' w'∧Ext Z0 H0 w0 Z' H' w'∧K r H') a'.defers .returning w:=by
  split at q
  · rename_i rs hrs
    have fin:∀ w2,(∀ i,i < fn.ntmps→RepA V w2 Z (a'.tmps.getD i undef) (F i))→Mem V Z H w2→Ext Z0 H0 w0 Z H w2→LeavesInM (wQ none) 0 P fn a'.tmps (fun e w'=>∃ v r Z' H',e=.returned v∧RepA V w' Z' v r∧Mem V Z' H' w'∧Ext Z0 H0 w0 Z' H' w'∧K r H') [] .returning w2:=by
      intro w2 hs m2 x2
      have s2:St V fn.ntmps ⟨a'.defers,0⟩ Z F H a' w2:=⟨.none _ (Nat.zero_le _),st.size,hs,m2⟩
      obtain ⟨v,hv,rv⟩:=zAb s2 hrs
      obtain ⟨r',Z3,H3,r3,m3,x3,hK⟩:=q Z w2 v rv m2
      exact ⟨v,hv,v,r',Z3,H3,rfl,r3,m3,x2.trans m0.zlt x3,hK⟩
    rcases hds with ⟨rfl,rfl,x⟩ | ⟨g,cv,l3,Z3,H3,w3,idle,hi,rfl,⟨h0,ms,h1,h2,h3⟩,rfl,m3,x3,x⟩
    · exact st.marks (by simp) fun w2 s2 hx=>fin w2 s2.slots s2.mem (hx (Nat.le_refl _) x)
    · refine st.marks (by simp) fun w2 s2 hx => ?_
      have x2:=hx (Nat.le_refl _) x
      refine ⟨by simp,.inr ⟨fun h=>(by cases h),.func g,cv,g,cv,rfl,hi w2,fun _ _=>trivial,(idle cv w2 rfl).mono ?_⟩⟩
      rintro e u w4 ⟨rfl,rfl,hb⟩
      obtain ⟨m4,x4⟩:=s2.mem.below hb
      have k4:=s2.mem.keeps x4
      rw [h1]
      refine zAu (by simp [settle]) ms h2 (fun D hD=>?_) fun w5 k hk=>?_
      · obtain ⟨d1, d2, d3, d4, d5⟩ := h3 D hD
        have hno:¬ Own H3 D:=fun o=>d2 (m3.own D o)
        have e2:w2.heap[D]?=w3.heap[D]?:=x2.block D d3 hno
        have l2:D < w2.heap.size:=Nat.lt_of_lt_of_le d3 x2.size
        exact ⟨Nat.lt_of_lt_of_le l2 hb.size,(hb.block D l2).trans (e2.trans d4)⟩
      · refine fin w5 (fun i hi => ((s2.slots i hi).keep k4).shut k) (m4.shut k fun b o hM => hk b fun hm => ?_) ?_
        · rw [(h3 b hm).2.2.2.2] at hM; cases hM
        · have xx : Ext Z0 H0 w0 Z H w4 := (x3.trans m0.zlt x2).trans m0.zlt x4
          refine ⟨k.os.trans xx.os,k.tape.trans xx.tape,k.output.trans xx.output,by rw [k.size]; exact xx.size,fun b hb' ho=>?_,xx.znew,xx.zold,xx.own⟩
          rw [hk b (fun hm=>by have:w0.heap.size≤b:=(h3 b hm).1; omega)]
          exact xx.block b hb' ho
  · exact q.elim
theorem ACall.deferred {f g s:Nat} {rs:List ResultVar} {X1 X2 X3 X4:SCode} {kk:Option (List Nat)} {caps:Array Operand} {args:List A} {K:A→Heap→Prop} (hm:P.follows .mixedOrders=true)
    (hf:FnIs P f N rs (.seq X1 (.seq X2 (.seq X3 (.seq (.reg kk [{ dst:=some s,gd:=none,op:=.makeFunc (.func g) #[] caps },{ dst:=none,gd:=none,op:=.defer { callee:=.value (.tmp s),args:=#[],argTypes:=#[] } }]) X4)))))
    (hn:args.length≤N) (hs:s < N) (hi:∀ cv w1,(invoke (.fn (.func g) cv) #[]).run P w1=.ok (.enter g cv) w1) (idle:zHC P caps.size g)
    (h:svc P V N (.seq X1 (.seq X2 X3)) (fun e F H=>match e with
      | .normal=>svc P V N X4 (sret P V N rs K) (updF F s (.func g (caps.toList.map (ev V N F)))) H
      | e=>sret P V N rs K e F H) (zBI args) H):ACall P V f args H K:=by
  obtain ⟨fn,plans,keeps,c,h1,rfl,hrs,h4,h5,h6⟩:=hf
  obtain ⟨c1,r1,rfl,e1,h6⟩:=zAX h6
  obtain ⟨c2,r2,rfl,e2,h6⟩:=zAX h6
  obtain ⟨c3,r3,rfl,e3,h6⟩:=zAX h6
  obtain ⟨c4,c5,rfl,e4,e5⟩:=zAX h6
  obtain ⟨id,ops,rfl,e6⟩:=zIn e4
  simp only [qI,Bool.and_eq_true] at h5
  obtain ⟨k1,k2,k3,k4,k5⟩:=h5
  subst e1 e2 e3 e5
  have fq:∀ {e:Exit} {F':Nat→A} {H':Heap},sret P V fn.ntmps rs K e F' H'→(e=.normal∨e=.ret)∧(match vJ P V fn.ntmps F' H' fn.results.toList with | some rs=>retW V (jL rs) H' K | none=>False):=by
    intro e F' H' q
    rw [hrs]
    cases e with
    | normal=>exact ⟨.inl rfl,q⟩
    | ret=>exact ⟨.inr rfl,q⟩
    | _=>exact q.elim
  intro Z w cv hl hr m
  refine callsIn_roundF.1 (callsIn_of_wp_marks (F:=wQ none) (n:=0) h1 h4 trivial ?_)
  have st:=St.first hn hl hr m
  -- what stands behind the early pieces' other ways out
  have out:∀ {ls:List Deferred} {B:Nat} {e:Exit} {F':Nat→A} {H':Heap} {Z':Nat→Prop} {a':Act} {w':World},St V fn.ntmps ⟨ls,B⟩ Z' F' H' a' w' →
      ((ls=[]∧B=w.heap.size∧Ext Z H w Z' H' w')∨∃ g cv l3 Z3 H3 w3,zHC P cv.size g∧(∀ w1,(invoke (.fn (.func g) cv) #[]).run P w1=.ok (.enter g cv) w1)∧ls={ target:=.fn (.func g) cv,args:=#[] }::l3 ∧
        Marked V.M w.heap.size Z3 w3 l3 []∧B=w3.heap.size∧Mem V Z3 H3 w3∧Ext Z H w Z3 H3 w3∧Ext Z3 H3 w3 Z' H' w') →
      sret P V fn.ntmps rs K e F' H'→bodyPostM (wQ none) 0 P fn (fun e w'=>∃ v r Z' H',e=.returned v∧RepA V w' Z' v r∧Mem V Z' H' w'∧Ext Z H w Z' H' w'∧K r H') e a' w':=by
    intro ls B e F' H' Z' a' w' st' hds q
    obtain ⟨he,q2⟩:=fq q
    rcases he with rfl | rfl
    · exact st'.ends m q2 hds
    · exact st'.ends m q2 hds
  simp only [svc] at h
  refine wpIn_seq (wpIn_mono (qM hm c1 k1 (.inl rfl) h _ Z _ w st) ?_)
  rintro e a1 w1 ⟨Z1,F1,H1,st1,x1,q⟩
  cases e with
  | normal =>
    refine wpIn_seq (wpIn_mono (qM hm c2 k2 (.inl rfl) q _ Z1 _ w1 st1) ?_)
    rintro e a2 w2 ⟨Z2,F2,H2,st2,x2,q⟩
    have x12:=x1.trans m.zlt x2
    cases e with
    | normal =>
      refine wpIn_seq (wpIn_mono (qM hm c3 k3 (.inl rfl) q _ Z2 _ w2 st2) ?_)
      rintro e a3 w3 ⟨Z3,F3,H3,st3,x3,q⟩
      have x13:=x12.trans m.zlt x3
      cases e with
      | normal =>
        refine wpIn_seq (wpIn_wide.2 (zJk st3 hs e6 ?_))
        intro a4 cv4 hcv4 _ st4
        refine wpIn_mono (qM hm c5 k5 (.inl rfl) q _ Z3 a4 w3 st4) ?_
        rintro e a5 w5 ⟨Z5,F5,H5,st5,x5,q⟩
        exact out st5 (.inr ⟨g,cv4,a3.defers,Z3,H3,w3,by rw [hcv4]; exact idle,hi cv4,rfl,st3.defers,rfl,st3.mem,x13,x5⟩) q
      | ret=>exact out (e:=.ret) st3 (.inl ⟨rfl,rfl,x13⟩) q
      | _=>exact q.elim
    | ret=>exact out (e:=.ret) st2 (.inl ⟨rfl,rfl,x12⟩) q
    | _=>exact q.elim
  | ret=>exact out (e:=.ret) st1 (.inl ⟨rfl,rfl,x1⟩) q
  | _=>exact q.elim
def RecD (P:Program) (V:Env) (g:FuncId) (caps:List A) (H:Heap) (v:Value) (H2:Heap):Prop:=∀ (Z:Nat→Prop) (w:World) (cv:List Value),cv.length=caps.length →
  (∀ j (h:j < cv.length) (h':j < caps.length),RepA V w Z cv[j] caps[j])→Mem V Z H w →
    CallsDIn (wQ none) 0 P g cv.toArray (.panicking [{ v,recovered:=false }]) w fun e u w'=>e=.returned (.tuple #[])∧u=.panicking [{ v,recovered:=true }]∧∃ Z',Mem V Z' H2 w'∧Ext Z H w Z' H2 w'
def zIi (P:Program) (V:Env) (N:Nat) (rs:List ResultVar) (g:FuncId) (caps:List A) (K:A→Heap→Prop):Post
  | .panic [{ v,recovered:=false,goexit:=false }],F,H=>∃ H2,RecD P V g caps H v H2∧(match vJ P V N F H2 rs with | some rs=>retW V (jL rs) H2 K | none=>False)
  | e,F,H=>sret P V N rs K e F H
theorem St.rescued {fn:Func} {g:FuncId} {cv:List Value} {caps:List A} {l3:List Deferred} {a':Act} {F:Nat→A} {K:A→Heap→Prop} {w0 w3:World} {Z0 Z3:Nat→Prop} {H0 H3 H2:Heap} {v:Value} (m0:Mem V Z0 H0 w0)
    (st:St V fn.ntmps ⟨{ target:=.fn (.func g) cv.toArray,args:=#[] }::l3,w3.heap.size⟩ Z F H a' w) (hi:∀ cv w1,(invoke (.fn (.func g) cv) #[]).run P w1=.ok (.enter g cv) w1)
    (hl:cv.length=caps.length) (hr:∀ j (h:j < cv.length) (h':j < caps.length),RepA V w3 Z3 cv[j] caps[j])
    (hm:Marked V.M w0.heap.size Z3 w3 l3 []) (m3:Mem V Z3 H3 w3) (x3:Ext Z0 H0 w0 Z3 H3 w3) (x:Ext Z3 H3 w3 Z H w)
    (rec:RecD P V g caps H v H2) (q:match vJ P V fn.ntmps F H2 fn.results.toList with | some rs=>retW V (jL rs) H2 K | none=>False) :
    LeavesInM (wQ none) 0 P fn a'.tmps (fun e w'=>∃ v r Z' H',e=.returned v∧RepA V w' Z' v r∧Mem V Z' H' w'∧Ext Z0 H0 w0 Z' H' w'∧K r H') a'.defers (.panicking [{ v,recovered:=false }]) w:=by
  split at q
  · rename_i rs hrs
    obtain ⟨h0,ms,h1,h2,h3⟩:=hm
    refine st.marks (by simp) fun w2 s2 hx=>?_
    have x2:=hx (Nat.le_refl _) x
    have k32:=m3.keeps x2
    refine ⟨by simp,.inr ⟨fun h=>(by cases h),.func g,cv.toArray,g,cv.toArray,rfl,hi _ w2,fun _ _=>trivial,(rec Z w2 cv hl (fun j h h'=>(hr j h h').keep k32) s2.mem).mono ?_⟩⟩
    rintro e u w4 ⟨rfl,rfl,Z4,m4,x4⟩
    have k4:=s2.mem.keeps x4
    have hs:settle (.panicking [{ v,recovered:=true }])=.returning:=rfl
    simp only [hs]
    rw [h1]
    refine zAu (by simp) ms h2 (fun D hD=>?_) fun w5 k hk=>?_
    · obtain ⟨d1, d2, d3, d4, d5⟩ := h3 D hD
      have hno:¬ Own H3 D:=fun o=>d2 (m3.own D o)
      have hno2:¬ Own H D:=fun o=>by rcases x2.own D o with h | h; exact hno h; omega
      have e2:w2.heap[D]?=w3.heap[D]?:=x2.block D d3 hno
      have l2:D < w2.heap.size:=Nat.lt_of_lt_of_le d3 x2.size
      exact ⟨Nat.lt_of_lt_of_le l2 x4.size,(x4.block D l2 hno2).trans (e2.trans d4)⟩
    · have m5 : Mem V Z4 H2 w5 := m4.shut k fun b o hM => hk b fun hm => by rw [(h3 b hm).2.2.2.2] at hM; cases hM
      have s5:St V fn.ntmps ⟨a'.defers,0⟩ Z4 F H2 a' w5:=⟨.none _ (Nat.zero_le _),st.size,fun i hi=>((s2.slots i hi).keep k4).shut k,m5⟩
      have xx:Ext Z0 H0 w0 Z4 H2 w4:=(x3.trans m0.zlt x2).trans m0.zlt x4
      have x5:Ext Z0 H0 w0 Z4 H2 w5:=by
        refine ⟨k.os.trans xx.os,k.tape.trans xx.tape,k.output.trans xx.output,by rw [k.size]; exact xx.size,fun b hb' ho=>?_,xx.znew,xx.zold,xx.own⟩
        rw [hk b (fun hm=>by have:w0.heap.size≤b:=(h3 b hm).1; omega)]
        exact xx.block b hb' ho
      obtain ⟨u,hu,ru⟩:=zAb s5 hrs
      obtain ⟨r',Z6,H6,r6,m6,x6,hK⟩:=q Z4 w5 u ru m5
      exact ⟨u,hu,u,r',Z6,H6,rfl,r6,m6,x5.trans m0.zlt x6,hK⟩
  · exact q.elim
theorem ACall.rescued {f g s:Nat} {rs:List ResultVar} {X1 X2 X3 X4:SCode} {kk:Option (List Nat)} {caps:Array Operand} {args:List A} {K:A→Heap→Prop} (hm:P.follows .mixedOrders=true)
    (hf:FnIs P f N rs (.seq X1 (.seq X2 (.seq X3 (.seq (.reg kk [{ dst:=some s,gd:=none,op:=.makeFunc (.func g) #[] caps },{ dst:=none,gd:=none,op:=.defer { callee:=.value (.tmp s),args:=#[],argTypes:=#[] } }]) X4)))))
    (hn:args.length≤N) (hs:s < N) (hi:∀ cv w1,(invoke (.fn (.func g) cv) #[]).run P w1=.ok (.enter g cv) w1) (idle:zHC P caps.size g)
    (h:svc P V N (.seq X1 (.seq X2 X3)) (fun e F H=>match e with
      | .normal=>svc P V N X4 (zIi P V N rs g (caps.toList.map (ev V N F)) K) (updF F s (.func g (caps.toList.map (ev V N F)))) H
      | e=>sret P V N rs K e F H) (zBI args) H):ACall P V f args H K:=by
  obtain ⟨fn,plans,keeps,c,h1,rfl,hrs,h4,h5,h6⟩:=hf
  obtain ⟨c1,r1,rfl,e1,h6⟩:=zAX h6
  obtain ⟨c2,r2,rfl,e2,h6⟩:=zAX h6
  obtain ⟨c3,r3,rfl,e3,h6⟩:=zAX h6
  obtain ⟨c4,c5,rfl,e4,e5⟩:=zAX h6
  obtain ⟨id,ops,rfl,e6⟩:=zIn e4
  simp only [qI,Bool.and_eq_true] at h5
  obtain ⟨k1,k2,k3,k4,k5⟩:=h5
  subst e1 e2 e3 e5
  have fq:∀ {e:Exit} {F':Nat→A} {H':Heap},sret P V fn.ntmps rs K e F' H'→(e=.normal∨e=.ret)∧(match vJ P V fn.ntmps F' H' fn.results.toList with | some rs=>retW V (jL rs) H' K | none=>False):=by
    intro e F' H' q
    rw [hrs]
    cases e with
    | normal=>exact ⟨.inl rfl,q⟩
    | ret=>exact ⟨.inr rfl,q⟩
    | _=>exact q.elim
  intro Z w cv hl hr m
  refine callsIn_roundF.1 (callsIn_of_wp_marks (F:=wQ none) (n:=0) h1 h4 trivial ?_)
  have st:=St.first hn hl hr m
  -- what stands behind the early pieces' other ways out
  have out:∀ {ls:List Deferred} {B:Nat} {e:Exit} {F':Nat→A} {H':Heap} {Z':Nat→Prop} {a':Act} {w':World},St V fn.ntmps ⟨ls,B⟩ Z' F' H' a' w' →
      ((ls=[]∧B=w.heap.size∧Ext Z H w Z' H' w')∨∃ g cv l3 Z3 H3 w3,zHC P cv.size g∧(∀ w1,(invoke (.fn (.func g) cv) #[]).run P w1=.ok (.enter g cv) w1)∧ls={ target:=.fn (.func g) cv,args:=#[] }::l3 ∧
        Marked V.M w.heap.size Z3 w3 l3 []∧B=w3.heap.size∧Mem V Z3 H3 w3∧Ext Z H w Z3 H3 w3∧Ext Z3 H3 w3 Z' H' w') →
      sret P V fn.ntmps rs K e F' H'→bodyPostM (wQ none) 0 P fn (fun e w'=>∃ v r Z' H',e=.returned v∧RepA V w' Z' v r∧Mem V Z' H' w'∧Ext Z H w Z' H' w'∧K r H') e a' w':=by
    intro ls B e F' H' Z' a' w' st' hds q
    obtain ⟨he,q2⟩:=fq q
    rcases he with rfl | rfl
    · exact st'.ends m q2 hds
    · exact st'.ends m q2 hds
  simp only [svc] at h
  refine wpIn_seq (wpIn_mono (qM hm c1 k1 (.inl rfl) h _ Z _ w st) ?_)
  rintro e a1 w1 ⟨Z1,F1,H1,st1,x1,q⟩
  cases e with
  | normal =>
    refine wpIn_seq (wpIn_mono (qM hm c2 k2 (.inl rfl) q _ Z1 _ w1 st1) ?_)
    rintro e a2 w2 ⟨Z2,F2,H2,st2,x2,q⟩
    have x12:=x1.trans m.zlt x2
    cases e with
    | normal =>
      refine wpIn_seq (wpIn_mono (qM hm c3 k3 (.inl rfl) q _ Z2 _ w2 st2) ?_)
      rintro e a3 w3 ⟨Z3,F3,H3,st3,x3,q⟩
      have x13:=x12.trans m.zlt x3
      cases e with
      | normal =>
        refine wpIn_seq (wpIn_wide.2 (zJk st3 hs e6 ?_))
        rintro a4 _ hcv4 ⟨cv4,rfl,hcl,hcr⟩ st4
        refine wpIn_mono (qM hm c5 k5 (.inl rfl) q _ Z3 a4 w3 st4) ?_
        rintro e a5 w5 ⟨Z5,F5,H5,st5,x5,q⟩
        have fin:sret P V fn.ntmps rs K e F5 H5→bodyPostM (wQ none) 0 P fn (fun e w'=>∃ v r Z' H',e=.returned v∧RepA V w' Z' v r∧Mem V Z' H' w'∧Ext Z H w Z' H' w'∧K r H') e a5 w5:=fun q =>
          out st5 (.inr ⟨g,cv4.toArray,a3.defers,Z3,H3,w3,by rw [hcv4]; exact idle,hi _,rfl,st3.defers,rfl,st3.mem,x13,x5⟩) q
        cases e with
        | panic ch =>
          unfold zIi at q
          split at q
          · rename_i e v hch
            cases hch
            obtain ⟨H6,rec,q⟩:=q
            rw [←hrs] at q
            exact st5.rescued m hi hcl hcr st3.defers st3.mem x13 x5 rec q
          · exact q.elim
        | _=>exact fin q
      | ret=>exact out (e:=.ret) st3 (.inl ⟨rfl,rfl,x13⟩) q
      | _=>exact q.elim
    | ret=>exact out (e:=.ret) st2 (.inl ⟨rfl,rfl,x12⟩) q
    | _=>exact q.elim
  | ret=>exact out (e:=.ret) st1 (.inl ⟨rfl,rfl,x1⟩) q
  | _=>exact q.elim
end
end Go.Aug
