/- The grammar as plain functions, and what holds of them; no conditions but those in each theorem. -/
import Derived.Test.YthldjffimcngaaaGreatDoorAugFive
import Derived.Test.YthldjffimcngaaaGreatDoorAugFour
import Derived.Lib.Bytealg
set_option linter.all false
set_option linter.unusedVariables false
set_option linter.unusedSimpArgs false
set_option linter.unusedSectionVars false

/- Plain: the part of ParA that names no program. -/
namespace Go.Aug
set_option maxRecDepth 100000
set_option linter.unusedSimpArgs false
attribute [local irreducible] hid andK letA zR wN xX yH xR xE wR idxA ldV ldD addO xD appTo wF slA srcK nilQ retW gif sgd yT svc sops xQ yX aopO xT yU aBin aUn wK aLen zL yW zI yG xC yF yZ zJ zM yV zX yE xG xU frzM putE newK newV wP ACall xH wD zW sret cnd szs nilC yK zQ yA
attribute [local go_sem] Int.natCast_zero
structure Tok where
 kind:Int
 text:ByteArray
 int:Int
 deriving DecidableEq,Inhabited
def Tok.cs (t:Tok):List D:=[.int .i64 t.kind,.str t.text,.int .i64 t.int]
def Tok.d (t:Tok):D:=.agg t.cs
structure RdS where
 pos:Nat
 err:Int
abbrev rdA (l:List Tok) (s:RdS):List A:=[.d (.slice (l.map Tok.d)),.d (.int .i64 s.pos),.d (.int .i64 s.err)]
def rend (l:List Tok) (s:RdS):Bool:=!decide (s.err=0) || decide (l.length≤s.pos)
def uC (e:Int) (s:RdS):RdS:=if s.err=0 then ⟨s.pos,e⟩ else s
def ris (l:List Tok) (t:ByteArray) (s:RdS):Bool:=!rend l s && match l[s.pos]? with
 | some k=>decide (k.text=t) && (decide (k.kind=1) || decide (k.kind=4))
 | none=>false
def rgot (l:List Tok) (t:ByteArray) (s:RdS):Bool×RdS:=if ris l t s=true then (true,⟨s.pos+1,s.err⟩) else (false,s)
def yR (l:List Tok) (t:ByteArray) (s:RdS):RdS:=if s.err=0 then (if (rgot l t s).1=true then (rgot l t s).2 else uC 2 (rgot l t s).2) else s
def yD (l:List Tok) (n:Nat) (s:RdS):RdS:=if 64 < n∧rend l s=false then uC 3 s else s
theorem qT {k:Nat} (h:k < 1099511627776):IntKind.i64.wrap ((k:Int)+1)=((k+1:Nat):Int):=by rw [jP (by omega) (by omega)]; omega
theorem zJj {H:Heap} {r:Nat} {o:AObj} (h:H r=some o):upd H r o=H:=by
 funext k; unfold upd; split
 ·rename_i e; subst e; exact h.symm
 ·rfl
structure RdAt (H:Heap) (r:Nat) (l:List Tok) (s:RdS):Prop where
 at_:H r=some (.var (rdA l s))
 short:l.length < 1073741824
 le:s.pos≤l.length
def rset (H:Heap) (r:Nat) (l:List Tok) (s:RdS):Heap:=upd H r (.var (rdA l s))
theorem RdAt.self {H:Heap} {r:Nat} {l:List Tok} {s:RdS} (h:RdAt H r l s):rset H r l s=H:=zJj h.at_
theorem RdAt.to {H:Heap} {r:Nat} {l:List Tok} {s:RdS} (h:RdAt H r l s) {s':RdS} (hs:s'.pos≤l.length):RdAt (rset H r l s') r l s':=⟨zV ..,h.short,hs⟩
theorem jI {H:Heap} {r:Nat} {l:List Tok} {s s':RdS}:rset (rset H r l s) r l s'=rset H r l s':=uF
@[go_sem] theorem zXY {R:Heap} {lst:List (Nat×AObj)} {r:Nat} {l:List Tok} {s:RdS}:rset (hp R lst) r l s=hp R (setL r (.var (rdA l s)) lst):=zLP
theorem RdAt.len {H H':Heap} {r:Nat} {l:List Tok} {s s':RdS} (h:RdAt H r l s) (hs:s'.pos≤l.length) (ha:H' r=some (.var (rdA l s'))):RdAt H' r l s':=⟨ha,h.short,hs⟩
theorem uK {l:List Tok} {s:RdS} (h:rend l s=false):s.err=0∧s.pos < l.length∧∃ k,l[s.pos]?=some k:=by
 simp [rend] at h
 exact ⟨h.1,h.2,l[s.pos],by simp [h.2]⟩

theorem yQ {l:List Tok} {t:ByteArray} {s:RdS} (h:s.pos≤l.length):(rgot l t s).2.pos≤l.length:=by
 unfold rgot
 split
 ·rename_i hi
  simp only [ris,Bool.and_eq_true,Bool.not_eq_true'] at hi
  have:=(uK hi.1).2.1
  simp only; omega
 ·exact h
theorem wG (l:List Tok) (t:ByteArray) (s:RdS):s.pos≤(rgot l t s).2.pos:=by
 unfold rgot; split <;> simp
theorem wE (l:List Tok) (t:ByteArray) (s:RdS):(rgot l t s).2.err=s.err:=by
 unfold rgot; split <;> simp
theorem wA {l:List Tok} {t:ByteArray} {s:RdS} (h:(rgot l t s).1=true):s.err=0∧(rgot l t s).2.pos=s.pos+1∧s.pos < l.length:=by
 unfold rgot at h ⊢
 split at h
 ·rename_i hi
  rw [if_pos hi]
  simp only [ris,Bool.and_eq_true,Bool.not_eq_true'] at hi
  exact ⟨(uK hi.1).1,rfl,(uK hi.1).2.1⟩
 ·cases h
theorem vN (e:Int) (s:RdS):(uC e s).pos=s.pos:=by unfold uC; split <;> rfl
theorem vM {e:Int} (he:e≠0) (s:RdS):(uC e s).err≠0:=by unfold uC; split <;> assumption
theorem wT {l:List Tok} {t:ByteArray} {s:RdS} (h:s.pos≤l.length):(yR l t s).pos≤l.length:=by
 unfold yR; repeat' split
 ·exact yQ h
 ·rw [vN]; exact yQ h
 ·exact h
theorem qO (l:List Tok) (t:ByteArray) (s:RdS):s.pos≤(yR l t s).pos:=by
 unfold yR; repeat' split
 ·exact wG ..
 ·rw [vN]; exact wG ..
 ·exact Nat.le_refl _
theorem zAc {l:List Tok} {t:ByteArray} {s:RdS} (h:(yR l t s).err=0):s.err=0∧(yR l t s).pos=s.pos+1:=by
 unfold yR at h ⊢
 split at h
 ·rename_i h0
  rw [if_pos h0]
  split at h
  ·rename_i h1
   rw [if_pos h1]
   exact ⟨h0,(wA h1).2.1⟩
  ·exact absurd h (vM (by decide) _)
 ·exact absurd h (by assumption)
theorem vO (l:List Tok) (n:Nat) (s:RdS):(yD l n s).pos=s.pos:=by unfold yD; split; exact vN ..; rfl
def reserved:List ByteArray:=[⟨#[116,121,112,101]⟩,⟨#[112,114,101,100]⟩,⟨#[109,111,100,101]⟩,⟨#[105,115]⟩,⟨#[100,101,116]⟩,⟨#[115,101,109,105,100,101,116]⟩,⟨#[109,117,108,116,105]⟩,⟨#[110,111,110,100,101,116]⟩,
 ⟨#[105,110]⟩,⟨#[111,117,116]⟩,⟨#[116,114,117,101]⟩,⟨#[102,97,105,108]⟩,⟨#[110,111,116]⟩,⟨#[116,104,114,111,119]⟩,⟨#[116,114,121]⟩,⟨#[99,97,116,99,104]⟩,⟨#[116,104,101,110]⟩,⟨#[105,110,116]⟩]
def xF (s:ByteArray):Bool:=reserved.any fun w=>decide (w=s)
def zS (l:List Tok) (kind:Int) (s:RdS):ByteArray×RdS :=
 match (if rend l s=true then none else l[s.pos]?) with
 | some k=>if k.kind≠kind∨(kind=1∧xF k.text=true) then (⟨#[]⟩,uC 2 s) else (k.text,⟨s.pos+1,s.err⟩)
 | none=>(⟨#[]⟩,uC 2 s)
theorem wJ {l:List Tok} {kind:Int} {s:RdS} (h:s.pos≤l.length):(zS l kind s).2.pos≤l.length:=by
 unfold zS
 split
 ·rename_i k hk
  split
  ·rw [vN]; exact h
  ·split at hk
   ·cases hk
   ·rename_i he
    have:=(uK (by simpa using he)).2.1
    simp only; omega
 ·rw [vN]; exact h
theorem vH (l:List Tok) (kind:Int) (s:RdS):s.pos≤(zS l kind s).2.pos:=by
 unfold zS; repeat' split
 ·rw [vN]; exact Nat.le_refl _
 ·simp
 ·rw [vN]; exact Nat.le_refl _
theorem zBy {l:List Tok} {kind:Int} {s:RdS} (h:(zS l kind s).2.err=0):s.err=0∧(zS l kind s).2.pos=s.pos+1∧rend l s=false:=by
 unfold zS at h ⊢
 split at h
 ·rename_i k hk
  split at h
  ·exact absurd h (vM (by decide) _)
  ·rename_i hc
   rw [if_neg hc]
   split at hk
   ·cases hk
   ·rename_i he
    exact ⟨h,rfl,by simpa using he⟩
 ·exact absurd h (vM (by decide) _)
def xZ (l:List Tok) (n:Nat) (s:RdS):Bool×RdS:=(decide ((if n=8∧rend l s=false then uC 4 s else s).err=0),if n=8∧rend l s=false then uC 4 s else s)
def xK (l:List Tok) (n:Nat) (s:RdS):Bool×RdS :=
 if n=0 then (if (rgot l ⟨#[40]⟩ s).1=true then xZ l n (rgot l ⟨#[40]⟩ s).2 else (false,(rgot l ⟨#[40]⟩ s).2))
 else if (rgot l ⟨#[41]⟩ s).1=true∨(rgot l ⟨#[41]⟩ s).2.err≠0 then (false,(rgot l ⟨#[41]⟩ s).2) else xZ l n (yR l ⟨#[44]⟩ (rgot l ⟨#[41]⟩ s).2)
theorem qY (l:List Tok) (n:Nat) (s:RdS):(xZ l n s).2.pos=s.pos:=by
 unfold xZ; simp only; split
 ·exact vN ..
 ·rfl
theorem qN {l:List Tok} {n:Nat} {s:RdS} (h:s.pos≤l.length):(xK l n s).2.pos≤l.length:=by
 unfold xK; repeat' split
 ·rw [qY]; exact yQ h
 ·exact yQ h
 ·exact yQ h
 ·rw [qY]; exact wT (yQ h)
theorem zDG (l:List Tok) (n:Nat) (s:RdS):s.pos≤(xK l n s).2.pos:=by
 unfold xK; repeat' split
 ·rw [qY]; exact wG ..
 ·exact wG ..
 ·exact wG ..
 ·rw [qY]; exact Nat.le_trans (wG l ⟨#[41]⟩ s) (qO ..)
theorem zAf {l:List Tok} {n:Nat} {s:RdS} (h:(xK l n s).1=true):(xK l n s).2.err=0∧s.pos+1≤(xK l n s).2.pos∧(n=8→rend l (xK l n s).2=true):=by
 have fin:∀ s',(xZ l n s').1=true→(xZ l n s').2.err=0∧(n=8→rend l (xZ l n s').2=true)∧s'.err=0:=by
  intro s' hs
  simp only [xZ,decide_eq_true_eq] at hs ⊢
  split at hs
  ·exact absurd hs (vM (by decide) _)
  ·rename_i hc
   rw [if_neg hc]
   refine ⟨hs,fun h8=>?_,hs⟩
   cases hr:rend l s' with
   | true=>rfl
   | false=>exact absurd ⟨h8,hr⟩ hc
 unfold xK at h ⊢
 split at h
 ·rename_i h0
  rw [if_pos h0]
  split at h
  ·rename_i hg
   rw [if_pos hg]
   obtain ⟨a,b,c⟩:=fin _ h
   refine ⟨a, ?_,b⟩
   rw [qY,(wA hg).2.1]; exact Nat.le_refl _
  ·cases h
 ·rename_i h0
  rw [if_neg h0]
  split at h
  ·cases h
  ·rename_i hc
   rw [if_neg hc]
   obtain ⟨a,b,c⟩:=fin _ h
   refine ⟨a, ?_,b⟩
   rw [qY,(zAc c).2]
   have:=wG l ⟨#[41]⟩ s
   omega

inductive Tm where
 | mk (kind:Int) (name:ByteArray) (int:Int) (args:List Tm)
 deriving Inhabited
mutual
def Tm.cs:Tm→List D
 | .mk k n i xs=>[.int .i64 k,.str n,.int .i64 i,.slice (Tm.ds xs)]
def Tm.ds:List Tm→List D
 | []=>[]
 | t::ts=>.agg t.cs::Tm.ds ts
end
def Tm.d (t:Tm):D:=.agg t.cs
theorem Tm.ds_map:∀ xs:List Tm,Tm.ds xs=xs.map Tm.d
 | []=>rfl
 | t::ts=>by simp only [Tm.ds,List.map_cons,Tm.ds_map ts]; rfl
theorem Tm.cs_length (t:Tm):t.cs.length=4:=by cases t; simp [Tm.cs]
def yC {α:Type} (p:RdS→α×RdS) (l:List Tok):Nat→List α→RdS→List α×RdS
 | 0,xs,s=>(xs,s)
 | k+1,xs,s=>if s.err=0 then (if (xK l xs.length s).1=true then yC p l k (xs++[(p (xK l xs.length s).2).1]) (p (xK l xs.length s).2).2 else (xs,(xK l xs.length s).2)) else (xs,s)
theorem yJ {α:Type} {p:RdS→α×RdS} {l:List Tok} {k:Nat} {xs:List α} {s:RdS} (h:s.err≠0):yC p l k xs s=(xs,s):=by
 cases k with
 | zero=>rfl
 | succ k=>simp only [yC,if_neg h]
def yS:Nat→List Tok→Nat→RdS→Tm×RdS
 | 0,_,_,s=>(default,s)
 | f+1,l,n,s =>
  match (if rend l (yD l n s)=true then none else l[(yD l n s).pos]?) with
  | some k=>if k.kind=3 then (.mk 2 ⟨#[]⟩ k.int [],⟨(yD l n s).pos+1,(yD l n s).err⟩) else if k.kind=2 then (.mk 1 k.text 0 [],⟨(yD l n s).pos+1,(yD l n s).err⟩)
   else (.mk 3 (zS l 1 (yD l n s)).1 0 (yC (yS f l (n+1)) l 10 [] (zS l 1 (yD l n s)).2).1,(yC (yS f l (n+1)) l 10 [] (zS l 1 (yD l n s)).2).2)
  | none=>(.mk 3 (zS l 1 (yD l n s)).1 0 (yC (yS f l (n+1)) l 10 [] (zS l 1 (yD l n s)).2).1,(yC (yS f l (n+1)) l 10 [] (zS l 1 (yD l n s)).2).2)
theorem zDE {α:Type} {p:RdS→α×RdS} {l:List Tok} (hp:∀ s,s.pos≤l.length→(p s).2.pos≤l.length):∀ (k:Nat) (xs:List α) (s:RdS),s.pos≤l.length→(yC p l k xs s).2.pos≤l.length
 | 0,_,_,h=>h
 | k+1,xs,s,h=>by
  simp only [yC]
  repeat' split
  ·exact zDE hp k _ _ (hp _ (qN h))
  ·exact qN h
  ·exact h
theorem zGk {l:List Tok}:∀ (f n:Nat) (s:RdS),s.pos≤l.length→(yS f l n s).2.pos≤l.length
 | 0,_,_,h=>h
 | f+1,n,s,h=>by
  have h1:(yD l n s).pos≤l.length:=by rw [vO]; exact h
  have hw:=zDE (p:=yS f l (n+1)) (fun s hs=>zGk f (n+1) s hs) 10 [] _ (wJ (kind:=1) h1)
  simp only [yS]
  split
  ·rename_i k hk
   have:(yD l n s).pos+1≤l.length:=by
    split at hk
    ·cases hk
    ·exact (List.getElem?_eq_some_iff.1 hk).1
   repeat' split
   ·exact this
   ·exact this
   ·exact hw
  ·exact hw
theorem zCW {l:List Tok} {n:Nat} {s:RdS} (h:64 < n):rend l (yD l n s)=true:=by
 cases he:rend l s with
 | true =>
  have:yD l n s=s:=by unfold yD; rw [if_neg (by simp [he])]
  rw [this]; exact he
 | false =>
  have:yD l n s=uC 3 s:=by unfold yD; rw [if_pos ⟨h,he⟩]
  rw [this]
  have:=vM (e:=3) (by decide) s
  simp [rend,this]
theorem zDT {G H:Heap} {E:TypeId} {sz:Nat} {l:List D} {a:A} (h:AccAt G E sz l a H) (K:A→Prop):aLen a H K=K (.d (.int .i64 l.length)):=by
 obtain ⟨hle,⟨rfl,rfl⟩ | ⟨b,v,rfl,hb,hv,hH⟩⟩:=h
 ·simp [aLen]
 ·simp only [aLen,hH,true_and]
theorem AccAt.allD {G H:Heap} {E:TypeId} {sz:Nat} {l:List D} {a:A} (h:AccAt G E sz l a H):allD [a]=none:=by
 rcases h.2 with ⟨_,rfl⟩ | ⟨b,v,rfl,_⟩ <;> rfl
theorem AccAt.one {G H:Heap} {E:TypeId} {sz:Nat} {l:List D} {a:A} (h:AccAt G E sz l a H):a.good=true∧a.cells=[a]:=by
 rcases h.2 with ⟨_,rfl⟩ | ⟨b,v,rfl,_⟩ <;> exact ⟨rfl,rfl⟩
theorem kJ {f:Nat} {l:List Tok} {n:Nat} {s:RdS} (hf:0 < f) (h:rend l s=true):(yS f l n s).2.err≠0:=by
 obtain ⟨f,rfl⟩:∃ f',f=f'+1:=⟨f - 1,by omega⟩
 have h1:yD l n s=s:=by unfold yD; rw [if_neg (by simp [h])]
 have h2:(zS l 1 s).2.err≠0:=by
  have:zS l 1 s=(⟨#[]⟩,uC 2 s):=by simp [zS,h]
  rw [this]; exact vM (by decide) s
 simp only [yS,h1,h,if_true]
 rw [yJ h2]
 exact h2

inductive Ty where
 | mk (var:Bool) (name:ByteArray) (args:List Ty)
 deriving Inhabited
mutual
def Ty.cs:Ty→List D
 | .mk v n xs=>[.bool v,.str n,.slice (Ty.ds xs)]
def Ty.ds:List Ty→List D
 | []=>[]
 | t::ts=>.agg t.cs::Ty.ds ts
end
def Ty.d (t:Ty):D:=.agg t.cs
theorem Ty.ds_map:∀ xs:List Ty,Ty.ds xs=xs.map Ty.d
 | []=>rfl
 | t::ts=>by simp only [Ty.ds,List.map_cons,Ty.ds_map ts]; rfl
theorem Ty.cs_length (t:Ty):t.cs.length=3:=by cases t; simp [Ty.cs]
def kInt:ByteArray:=⟨#[105,110,116]⟩
def zAr (l:List Tok) (s:RdS):Option Tok:=if rend l s=true then none else match l[s.pos]? with
 | some k=>if k.kind=2 then some k else none
 | none=>none
theorem zT {l:List Tok} {t:ByteArray} {s:RdS} (h:(rgot l t s).1=false):(rgot l t s).2=s:=by
 unfold rgot at h ⊢; split at h
 ·cases h
 ·rename_i hc; rw [if_neg hc]
def xN:Nat→List Tok→Nat→RdS→Ty×RdS
 | 0,_,_,s=>(default,s)
 | f+1,l,n,s =>
  match zAr l (yD l n s) with
  | some k=>(.mk true k.text [],⟨(yD l n s).pos+1,(yD l n s).err⟩)
  | none=>if (rgot l kInt (yD l n s)).1=true then (.mk false kInt [],(rgot l kInt (yD l n s)).2)
   else (.mk false (zS l 1 (yD l n s)).1 (yC (xN f l (n+1)) l 10 [] (zS l 1 (yD l n s)).2).1,(yC (xN f l (n+1)) l 10 [] (zS l 1 (yD l n s)).2).2)
theorem zGm {l:List Tok}:∀ (f n:Nat) (s:RdS),s.pos≤l.length→(xN f l n s).2.pos≤l.length
 | 0,_,_,h=>h
 | f+1,n,s,h=>by
  have h1:(yD l n s).pos≤l.length:=by rw [vO]; exact h
  have hw:=zDE (p:=xN f l (n+1)) (fun s hs=>zGm f (n+1) s hs) 10 [] _ (wJ (kind:=1) h1)
  simp only [xN]
  split
  ·rename_i k hk
   unfold zAr at hk
   split at hk
   ·cases hk
   ·rename_i he
    have:=(uK (by simpa using he)).2.1
    simp only; omega
  ·split
   ·exact yQ h1
   ·exact hw
theorem qL {f:Nat} {l:List Tok} {n:Nat} {s:RdS} (hf:0 < f) (h:rend l s=true):(xN f l n s).2.err≠0:=by
 obtain ⟨f,rfl⟩:∃ f',f=f'+1:=⟨f - 1,by omega⟩
 have h1:yD l n s=s:=by unfold yD; rw [if_neg (by simp [h])]
 have h2:(zS l 1 s).2.err≠0:=by
  have:zS l 1 s=(⟨#[]⟩,uC 2 s):=by simp [zS,h]
  rw [this]; exact vM (by decide) s
 have h3:(rgot l kInt s).1=false:=by simp [rgot,ris,h]
 simp only [xN,h1,zAr,h,if_true,h3]
 rw [yJ h2]
 exact h2
end Go.Aug

/- Plain: the part of ParE that names no program. -/
namespace Go.Aug
set_option maxRecDepth 100000
set_option linter.unusedSimpArgs false
attribute [local irreducible] hid andK letA zR wN xX yH xR xE wR idxA ldV ldD addO xD appTo wF slA srcK nilQ retW gif sgd yT svc sops xQ yX aopO xT yU aBin aUn wK aLen zL yW zI yG xC yF yZ zJ zM yV zX yE xG xU frzM putE newK newV wP ACall xH wD zW sret cnd szs nilC yK zQ yA
inductive Gl where
 | mk (kind:Int) (a b:Tm) (name:ByteArray) (args:List Tm) (goals:List Gl)
def Tm.none:Tm:=.mk 0 ⟨#[]⟩ 0 []
instance:Inhabited Gl:=⟨.mk 0 .none .none ⟨#[]⟩ [] []⟩
mutual
def Gl.cs:Gl→List D
 | .mk k a b n xs gs=>.int .i64 k::(a.cs++(b.cs++[.str n,.slice (xs.map Tm.d),.slice (Gl.ds gs)]))
def Gl.ds:List Gl→List D
 | []=>[]
 | t::ts=>.agg t.cs::Gl.ds ts
end
def Gl.d (t:Gl):D:=.agg t.cs
theorem Gl.ds_map:∀ xs:List Gl,Gl.ds xs=xs.map Gl.d
 | []=>rfl
 | t::ts=>by simp only [Gl.ds,List.map_cons,Gl.ds_map ts]; rfl
theorem Gl.cs_length (t:Gl):t.cs.length=12:=by cases t; simp [Gl.cs,Tm.cs_length]
def wM:ByteArray:=⟨#[44]⟩
def zAl:ByteArray:=⟨#[59]⟩
def kX:ByteArray:=⟨#[116,114,117,101]⟩
def kU:ByteArray:=⟨#[102,97,105,108]⟩
def kNot:ByteArray:=⟨#[110,111,116]⟩
def vT:ByteArray:=⟨#[116,104,114,111,119]⟩
def kTry:ByteArray:=⟨#[116,114,121]⟩
def vS:ByteArray:=⟨#[99,97,116,99,104]⟩
def zAM:ByteArray:=⟨#[116,104,101,110]⟩
def kL:ByteArray:=⟨#[40]⟩
def zBa:ByteArray:=⟨#[41]⟩
def kEq:ByteArray:=⟨#[61]⟩
def zAa (p:RdS→Gl×RdS) (l:List Tok):Nat→List Gl→RdS→List Gl×RdS
 | 0,gs,s=>(gs,s)
 | k+1,gs,s=>if (rgot l wM s).1=true then zAa p l k (gs++[(p (rgot l wM s).2).1]) (p (rgot l wM s).2).2 else (gs,s)
def zA0 (gs:List Gl):Gl:=if 1 < gs.length then .mk 5 .none .none ⟨#[]⟩ [] gs else gs.headD default
def rway (p:RdS→Gl×RdS) (l:List Tok) (s:RdS):Gl×RdS:=(zA0 (zAa p l l.length [(p s).1] (p s).2).1,(zAa p l l.length [(p s).1] (p s).2).2)
def rors (p:RdS→Gl×RdS) (l:List Tok):Nat→List Gl→RdS→List Gl×RdS
 | 0,os,s=>(os,s)
 | k+1,os,s=>if s.err=0 then (if (rgot l zAl (rway p l s).2).1=true then rors p l k (os++[(rway p l s).1]) (rgot l zAl (rway p l s).2).2 else (os++[(rway p l s).1],(rway p l s).2)) else (os,s)
def zJv (os:List Gl):Gl:=if os.length=1 then os.headD default else .mk 6 .none .none ⟨#[]⟩ [] os
def uQ (p:RdS→Gl×RdS) (l:List Tok) (s:RdS):Gl×RdS:=(zJv (rors p l (l.length+1) [] s).1,(rors p l (l.length+1) [] s).2)
def Tm.kind:Tm→Int
 | .mk k _ _ _=>k
def Tm.name:Tm→ByteArray
 | .mk _ n _ _=>n
def Tm.args:Tm→List Tm
 | .mk _ _ _ xs=>xs
def rtry (p:RdS→Gl×RdS) (l:List Tok) (s:RdS):Gl×RdS :=
 let a:=p s
 let v:=zS l 2 (yR l vS a.2)
 let b:=p (yR l zAM v.2)
 (.mk 9 .none .none v.1 [] [a.1,b.1],b.2)
def zBf (f:Nat) (l:List Tok) (n:Nat) (s:RdS):Gl×RdS :=
 let a:=yS f l (n+1) s
 if (rgot l kEq a.2).1=true then (.mk 3 a.1 (yS f l (n+1) (rgot l kEq a.2).2).1 ⟨#[]⟩ [] [],(yS f l (n+1) (rgot l kEq a.2).2).2)
 else (.mk 4 .none .none a.1.name a.1.args [],if a.1.kind=3 then a.2 else uC 2 a.2)
def xP:Nat→List Tok→Nat→RdS→Gl×RdS
 | 0,_,_,s=>(default,s)
 | f+1,l,n,s0 =>
  let s:=yD l n s0
  if (rgot l kX s).1=true then (.mk 1 .none .none ⟨#[]⟩ [] [],(rgot l kX s).2)
  else if (rgot l kU s).1=true then (.mk 2 .none .none ⟨#[]⟩ [] [],(rgot l kU s).2)
  else if (rgot l kNot s).1=true then (.mk 7 .none .none ⟨#[]⟩ [] [(xP f l (n+1) (rgot l kNot s).2).1],(xP f l (n+1) (rgot l kNot s).2).2)
  else if (rgot l vT s).1=true then (.mk 8 (yS f l (n+1) (rgot l vT s).2).1 .none ⟨#[]⟩ [] [],(yS f l (n+1) (rgot l vT s).2).2)
  else if (rgot l kTry s).1=true then rtry (xP f l (n+1)) l (rgot l kTry s).2
  else if (rgot l kL s).1=true then ((uQ (xP f l (n+1)) l (rgot l kL s).2).1,yR l zBa (uQ (xP f l (n+1)) l (rgot l kL s).2).2)
  else zBf f l n s
def zA1 (f:Nat) (l:List Tok) (n:Nat) (s:RdS):Gl×RdS:=uQ (xP f l n) l s
structure vI {α:Type} (l:List Tok) (p:RdS→α×RdS):Prop where
 le:∀ s,s.pos≤l.length→(p s).2.pos≤l.length
 ge:∀ s,s.pos≤(p s).2.pos
theorem zDD {α:Type} {p:RdS→α×RdS} {l:List Tok} (hp:∀ s,s.pos≤(p s).2.pos):∀ (k:Nat) (xs:List α) (s:RdS),s.pos≤(yC p l k xs s).2.pos
 | 0,_,_=>Nat.le_refl _
 | k+1,xs,s=>by
  simp only [yC]
  repeat' split
  ·exact Nat.le_trans (zDG ..) (Nat.le_trans (hp _) (zDD hp k _ _))
  ·exact zDG ..
  ·exact Nat.le_refl _
theorem zJb {l:List Tok}:∀ (f n:Nat) (s:RdS),s.pos≤(yS f l n s).2.pos
 | 0,_,_=>Nat.le_refl _
 | f+1,n,s=>by
  have h1:=vO l n s
  have hw:=Nat.le_trans (vH l 1 (yD l n s)) (zDD (p:=yS f l (n+1)) (fun s=>zJb f (n+1) s) 10 [] (l:=l) (zS l 1 (yD l n s)).2)
  rw [h1] at hw
  simp only [yS]
  repeat' split
  all_goals first | exact hw | (simp only; omega)
theorem zJc {l:List Tok}:∀ (f n:Nat) (s:RdS),s.pos≤(xN f l n s).2.pos
 | 0,_,_=>Nat.le_refl _
 | f+1,n,s=>by
  have h1:=vO l n s
  have hw:=Nat.le_trans (vH l 1 (yD l n s)) (zDD (p:=xN f l (n+1)) (fun s=>zJc f (n+1) s) 10 [] (l:=l) (zS l 1 (yD l n s)).2)
  have hg:=wG l kInt (yD l n s)
  rw [h1] at hw hg
  simp only [xN]
  repeat' split
  all_goals first | exact hw | exact hg | (simp only; omega)
theorem vR (l:List Tok) (f n:Nat):vI l (yS f l n):=⟨zGk f n,zJb f n⟩
theorem uM (l:List Tok) (f n:Nat):vI l (xN f l n):=⟨zGm f n,zJc f n⟩
theorem zAN {p:RdS→Gl×RdS} {l:List Tok} (hp:vI l p):∀ (k:Nat) (gs:List Gl),vI l (zAa p l k gs)
 | 0,gs=>⟨fun _ h=>h,fun _=>Nat.le_refl _⟩
 | k+1,gs=>by
  constructor
  ·intro s h
   simp only [zAa]; split
   ·exact (zAN hp k _).le _ (hp.le _ (yQ h))
   ·exact h
  ·intro s
   simp only [zAa]; split
   ·exact Nat.le_trans (wG ..) (Nat.le_trans (hp.ge _) ((zAN hp k _).ge _))
   ·exact Nat.le_refl _
theorem zBx {p:RdS→Gl×RdS} {l:List Tok} (hp:vI l p):vI l (rway p l) :=
 ⟨fun s h=>(zAN hp _ _).le _ (hp.le s h),fun s=>Nat.le_trans (hp.ge s) ((zAN hp _ _).ge _)⟩
theorem zBw {p:RdS→Gl×RdS} {l:List Tok} (hp:vI l p):∀ (k:Nat) (gs:List Gl),vI l (rors p l k gs)
 | 0,gs=>⟨fun _ h=>h,fun _=>Nat.le_refl _⟩
 | k+1,gs=>by
  constructor
  ·intro s h
   simp only [rors]; repeat' split
   ·exact (zBw hp k _).le _ (yQ ((zBx hp).le s h))
   ·exact (zBx hp).le s h
   ·exact h
  ·intro s
   simp only [rors]; repeat' split
   ·exact Nat.le_trans ((zBx hp).ge s) (Nat.le_trans (wG ..) ((zBw hp k _).ge _))
   ·exact (zBx hp).ge s
   ·exact Nat.le_refl _
theorem kH {p:RdS→Gl×RdS} {l:List Tok} (hp:vI l p):vI l (uQ p l):=⟨(zBw hp _ _).le,(zBw hp _ _).ge⟩
theorem zFF {p:RdS→Gl×RdS} {l:List Tok} (hp:vI l p):vI l (rtry p l) :=
 ⟨fun s h=>hp.le _ (wT (wJ (wT (hp.le s h)))),fun s=>Nat.le_trans (hp.ge s) (Nat.le_trans (qO ..) (Nat.le_trans (vH ..) (Nat.le_trans (qO ..) (hp.ge _))))⟩
theorem zEv (f:Nat) (l:List Tok) (n:Nat):vI l (zBf f l n):=by
 have ht:=vR l f (n+1)
 constructor
 ·intro s h
  simp only [zBf]; split
  ·exact ht.le _ (yQ (ht.le s h))
  ·simp only; split
   ·exact ht.le s h
   ·rw [vN]; exact ht.le s h
 ·intro s
  simp only [zBf]; split
  ·exact Nat.le_trans (ht.ge s) (Nat.le_trans (wG ..) (ht.ge _))
  ·simp only; split
   ·exact ht.ge s
   ·rw [vN]; exact ht.ge s
theorem vG (l:List Tok):∀ (f n:Nat),vI l (xP f l n)
 | 0,n=>⟨fun _ h=>h,fun _=>Nat.le_refl _⟩
 | f+1,n=>by
  have hp:=vG l f (n+1)
  have ht:=vR l f (n+1)
  constructor
  ·intro s0 h0
   have h:(yD l n s0).pos≤l.length:=by rw [vO]; exact h0
   simp only [xP]
   repeat' split
   ·exact yQ h
   ·exact yQ h
   ·exact hp.le _ (yQ h)
   ·exact ht.le _ (yQ h)
   ·exact (zFF hp).le _ (yQ h)
   ·exact wT ((kH hp).le _ (yQ h))
   ·exact (zEv f l n).le _ h
  ·intro s0
   have h:=vO l n s0
   rw [←h]
   simp only [xP]
   repeat' split
   ·exact wG ..
   ·exact wG ..
   ·exact Nat.le_trans (wG ..) (hp.ge _)
   ·exact Nat.le_trans (wG ..) (ht.ge _)
   ·exact Nat.le_trans (wG ..) ((zFF hp).ge _)
   ·exact Nat.le_trans (wG ..) (Nat.le_trans ((kH hp).ge _) (qO ..))
   ·exact (zEv f l n).ge _
end Go.Aug

/- Plain: the part of ParG that names no program. -/
namespace Go.Aug
set_option maxRecDepth 100000
set_option linter.unusedSimpArgs false
attribute [local irreducible] hid andK letA zR wN xX yH xR xE wR idxA ldV ldD addO xD appTo wF slA srcK nilQ retW gif sgd yT svc sops xQ yX aopO xT yU aBin aUn wK aLen zL yW zI yG xC yF yZ zJ zM yV zX yE xG xU frzM putE newK newV wP ACall xH wD zW sret cnd szs nilC yK zQ yA
attribute [local go_sem] Int.natCast_zero
def zDv:List A:=[.d (.int .i64 0),.d (.int .i64 0),.d (.str ⟨#[]⟩),.d (.int .i64 0),.nils,.d (.int .i64 0),.d (.str ⟨#[]⟩),.d (.int .i64 0),.nils,.d (.str ⟨#[]⟩),.nils,.nils]
theorem zP4 {N G:Heap} {b:Nat} {o:AObj} (h:LeH N G) (hb:G b=some o):LeH (upd N b o) G:=by
 intro k x hx
 unfold upd at hx
 split at hx
 ·rename_i e; subst e; cases hx; exact hb
 ·exact h k x hx
theorem zIQ {N X:Heap} {d b:Nat} {o:AObj} (hX:LeH N X) (hd:N d=none) (hg:b=d∨X b=none):LeH N (upd (del X d) b o):=by
 refine zO ?_ (zHV hd hX)
 rcases hg with rfl | h
 ·exact hd
 ·exact hX.free h
theorem zG1 {N X:Heap} {d b:Nat} (hX:LeH N X) (hg:b=d∨X b=none) (hd:N d=none):N b=none:=by
 rcases hg with rfl | h
 ·exact hd
 ·exact hX.free h

theorem zLz {l:List Tok} {t:ByteArray} {n:Nat} {s:RdS} (h:(rgot l t (yD l n s)).1=true):n≤64:=by
 apply Classical.byContradiction
 intro hn
 have:=zCW (l:=l) (s:=s) (show 64 < n by omega)
 unfold rgot at h
 split at h
 ·rename_i hi
  simp only [ris,Bool.and_eq_true,Bool.not_eq_true'] at hi
  rw [this] at hi; cases hi.1
 ·cases h
theorem Gl.none_d (k:Int):Gl.d (.mk k .none .none ⟨#[]⟩ [] [])=.agg [.int .i64 k,.int .i64 0,.str ⟨#[]⟩,.int .i64 0,.slice [],.int .i64 0,.str ⟨#[]⟩,.int .i64 0,.slice [],.str ⟨#[]⟩,.slice [],.slice []]:=by
 simp [Gl.d,Gl.cs,Tm.none,Tm.cs,Tm.ds,Gl.ds]
theorem zTN {l:List D} (h:l.length=12):∃ a b c d e f g h i j k m,l=[a,b,c,d,e,f,g,h,i,j,k,m]:=by
 rcases l with _ | ⟨a,_ | ⟨b,_ | ⟨c,_ | ⟨d,_ | ⟨e,_ | ⟨f,_ | ⟨g,_ | ⟨h,_ | ⟨i,_ | ⟨j,_ | ⟨k,_ | ⟨m,_ | ⟨n,l⟩⟩⟩⟩⟩⟩⟩⟩⟩⟩⟩⟩⟩ <;> simp at h
 exact ⟨_,_,_,_,_,_,_,_,_,_,_,_,rfl⟩
theorem Gl.opn (g:Gl):∃ a b c d e f g' h i j k m,g.cs=[a,b,c,d,e,f,g',h,i,j,k,m]:=zTN g.cs_length
end Go.Aug

/- Plain: the part of ParI that names no program. -/
namespace Go.Aug
set_option maxRecDepth 100000
set_option linter.unusedSimpArgs false
attribute [local irreducible] hid andK letA zR wN xX yH xR xE wR idxA ldV ldD addO xD appTo wF slA srcK nilQ retW gif sgd yT svc sops xQ yX aopO xT yU aBin aUn wK aLen zL yW zI yG xC yF yZ zJ zM yV zX yE xG xU frzM putE newK newV wP ACall xH wD zW sret cnd szs nilC yK zQ yA
structure Ct where
 name:ByteArray
 args:List Ty
 deriving Inhabited
def Ct.cs (c:Ct):List D:=[.str c.name,.slice (c.args.map Ty.d)]
def Ct.d (c:Ct):D:=.agg c.cs
structure It where
 kind:Int
 name:ByteArray
 vars:List ByteArray
 ctors:List Ct
 types:List Ty
 ways:List Bool
 det:Int
 args:List Tm
 body:Gl
instance:Inhabited It:=⟨⟨0,⟨#[]⟩,[],[],[],[],0,[],.mk 0 .none .none ⟨#[]⟩ [] []⟩⟩
def It.cs (i:It):List D:=[.int .i64 i.kind,.str i.name,.slice (i.vars.map .str),.slice (i.ctors.map Ct.d),.slice (i.types.map Ty.d),.slice (i.ways.map .bool),.int .i64 i.det,.slice (i.args.map Tm.d)]++i.body.cs
def It.d (i:It):D:=.agg i.cs
theorem It.cs_length (i:It):i.cs.length=20:=by simp [It.cs,Gl.cs_length]
def kY:ByteArray:=⟨#[116,121,112,101]⟩
def kW:ByteArray:=⟨#[112,114,101,100]⟩
def kV:ByteArray:=⟨#[109,111,100,101]⟩
def kBar:ByteArray:=⟨#[124]⟩
def kIn:ByteArray:=⟨#[105,110]⟩
def kOut:ByteArray:=⟨#[111,117,116]⟩
def kIs:ByteArray:=⟨#[105,115]⟩
def kDet:ByteArray:=⟨#[100,101,116]⟩
def jE:ByteArray:=⟨#[115,101,109,105,100,101,116]⟩
def jD:ByteArray:=⟨#[109,117,108,116,105]⟩
def kNon:ByteArray:=⟨#[110,111,110,100,101,116]⟩
def kIf:ByteArray:=⟨#[58,45]⟩
def kDot:ByteArray:=⟨#[46]⟩
def vW (l:List Tok) (s:RdS):Ct×RdS :=
 (⟨(zS l 1 s).1,(yC (xN 66 l 1) l 10 [] (zS l 1 s).2).1⟩,(yC (xN 66 l 1) l 10 [] (zS l 1 s).2).2)
def qA (l:List Tok):Nat→List Ct→RdS→List Ct×RdS
 | 0,cs,s=>(cs,s)
 | k+1,cs,s=>if (rgot l kBar s).1=true then qA l k (cs++[(vW l (rgot l kBar s).2).1]) (vW l (rgot l kBar s).2).2 else (cs,s)
def vU (l:List Tok) (s:RdS):Bool×RdS:=if (rgot l kIn s).1=true then (true,(rgot l kIn s).2) else (false,yR l kOut s)
def rdet (l:List Tok) (s:RdS):Int×RdS :=
 if (rgot l kDet s).1=true then (1,(rgot l kDet s).2)
 else if (rgot l jE s).1=true then (2,(rgot l jE s).2)
 else if (rgot l jD s).1=true then (3,(rgot l jD s).2)
 else if (rgot l kNon s).1=true then (4,(rgot l kNon s).2)
 else (0,uC 2 s)
def zBj (l:List Tok) (s:RdS):It×RdS :=
 let w:=zS l 1 s
 let v:=yC (zS l 2) l 10 [] w.2
 let c:=vW l (yR l kEq v.2)
 let b:=qA l l.length [c.1] c.2
 ({ (default:It) with kind:=1,name:=w.1,vars:=v.1,ctors:=b.1 },b.2)
def zBi (l:List Tok) (s:RdS):It×RdS :=
 let w:=zS l 1 s
 let v:=yC (xN 66 l 1) l 10 [] w.2
 ({ (default:It) with kind:=2,name:=w.1,types:=v.1 },v.2)
def zBh (l:List Tok) (s:RdS):It×RdS :=
 let w:=zS l 1 s
 let v:=yC (vU l) l 10 [] w.2
 let d:=rdet l (yR l kIs v.2)
 ({ (default:It) with kind:=3,name:=w.1,ways:=v.1,det:=d.1 },d.2)
def qB (l:List Tok) (s:RdS):It×RdS :=
 let w:=zS l 1 s
 let v:=yC (yS 66 l 1) l 10 [] w.2
 if (rgot l kIf v.2).1=true then ({ (default:It) with kind:=4,name:=w.1,args:=v.1,body:=(zA1 66 l 1 (rgot l kIf v.2).2).1 },(zA1 66 l 1 (rgot l kIf v.2).2).2)
 else ({ (default:It) with kind:=4,name:=w.1,args:=v.1,body:=.mk 1 .none .none ⟨#[]⟩ [] [] },v.2)
def uL (l:List Tok) (s:RdS):It×RdS :=
 if (rgot l kY s).1=true then zBj l (rgot l kY s).2
 else if (rgot l kW s).1=true then zBi l (rgot l kW s).2
 else if (rgot l kV s).1=true then zBh l (rgot l kV s).2
 else qB l s
def wW (l:List Tok):Nat→List It→RdS→List It×RdS
 | 0,is,s=>(is,s)
 | k+1,is,s=>if rend l s=true then (is,s) else if is.length=512 then (is,uC 4 s) else wW l k (is++[(uL l s).1]) (yR l kDot (uL l s).2)
def zBU (l:List Tok) (s:RdS):RdS:=if s.err=0∧s.pos < l.length then ⟨s.pos,2⟩ else s
def qD (l:List Tok) (e:Int):List It×Int :=
 let r:=wW l (l.length+1) [] ⟨0,e⟩
 if (zBU l r.2).err≠0 then ([],(zBU l r.2).err) else (r.1,0)
theorem wB {α:Type} {p:RdS→α×RdS} {l:List Tok} (hp:vI l p) (k:Nat) (xs:List α):vI l (yC p l k xs):=⟨zDE hp.le k xs,zDD hp.ge k xs⟩
theorem jY (l:List Tok) (k:Int):vI l (zS l k):=⟨fun _ h=>wJ h,vH l k⟩
theorem vF (l:List Tok):vI l (vW l) :=
 ⟨fun s h=>(wB (uM l 66 1) 10 []).le _ (wJ h),fun s=>Nat.le_trans (vH l 1 s) ((wB (uM l 66 1) 10 []).ge _)⟩
theorem zAQ (l:List Tok):∀ (k:Nat) (cs:List Ct),vI l (qA l k cs)
 | 0,cs=>⟨fun s h=>h,fun s=>Nat.le_refl _⟩
 | k+1,cs=>by
  refine ⟨fun s h=>?_,fun s=>?_⟩
  ·simp only [qA]; split
   ·exact (zAQ l k _).le _ ((vF l).le _ (yQ h))
   ·exact h
  ·simp only [qA]; split
   ·exact Nat.le_trans (wG ..) (Nat.le_trans ((vF l).ge _) ((zAQ l k _).ge _))
   ·exact Nat.le_refl _
theorem qZ (l:List Tok):vI l (vU l):=by
 refine ⟨fun s h=>?_,fun s=>?_⟩
 ·unfold vU; split
  ·exact yQ h
  ·exact wT h
 ·unfold vU; split
  ·exact wG ..
  ·exact qO ..
theorem zCT (l:List Tok):vI l (rdet l):=by
 refine ⟨fun s h=>?_,fun s=>?_⟩
 ·unfold rdet; repeat' split
  ·exact yQ h
  ·exact yQ h
  ·exact yQ h
  ·exact yQ h
  ·rw [vN]; exact h
 ·unfold rdet; repeat' split
  ·exact wG ..
  ·exact wG ..
  ·exact wG ..
  ·exact wG ..
  ·rw [vN]; exact Nat.le_refl _
theorem zCp (l:List Tok):vI l (zBj l):=by
 refine ⟨fun s h=>?_,fun s=>?_⟩
 ·exact (zAQ l _ _).le _ ((vF l).le _ (wT ((wB (jY l 2) 10 []).le _ (wJ h))))
 ·exact Nat.le_trans (vH ..) (Nat.le_trans ((wB (jY l 2) 10 []).ge _) (Nat.le_trans (qO ..) (Nat.le_trans ((vF l).ge _) ((zAQ l _ _).ge _))))
theorem zCo (l:List Tok):vI l (zBi l):=by
 refine ⟨fun s h=>?_,fun s=>?_⟩
 ·exact (wB (uM l 66 1) 10 []).le _ (wJ h)
 ·exact Nat.le_trans (vH ..) ((wB (uM l 66 1) 10 []).ge _)
theorem zCn (l:List Tok):vI l (zBh l):=by
 refine ⟨fun s h=>?_,fun s=>?_⟩
 ·exact (zCT l).le _ (wT ((wB (qZ l) 10 []).le _ (wJ h)))
 ·exact Nat.le_trans (vH ..) (Nat.le_trans ((wB (qZ l) 10 []).ge _) (Nat.le_trans (qO ..) ((zCT l).ge _)))
theorem zED (l:List Tok) (f n:Nat):vI l (zA1 f l n):=kH (vG l f n)
theorem zBg (l:List Tok):vI l (qB l):=by
 refine ⟨fun s h=>?_,fun s=>?_⟩
 ·have h1:=(wB (vR l 66 1) 10 []).le _ (wJ (kind:=1) h)
  simp only [qB]; split
  ·exact (zED l 66 1).le _ (yQ h1)
  ·exact h1
 ·have h1:=Nat.le_trans (vH l 1 s) ((wB (vR l 66 1) 10 []).ge _)
  simp only [qB]; split
  ·exact Nat.le_trans h1 (Nat.le_trans (wG ..) ((zED l 66 1).ge _))
  ·exact h1
theorem zAn (l:List Tok):vI l (uL l):=by
 refine ⟨fun s h=>?_,fun s=>?_⟩
 ·unfold uL; repeat' split
  ·exact (zCp l).le _ (yQ h)
  ·exact (zCo l).le _ (yQ h)
  ·exact (zCn l).le _ (yQ h)
  ·exact (zBg l).le _ h
 ·unfold uL; repeat' split
  ·exact Nat.le_trans (wG ..) ((zCp l).ge _)
  ·exact Nat.le_trans (wG ..) ((zCo l).ge _)
  ·exact Nat.le_trans (wG ..) ((zCn l).ge _)
  ·exact (zBg l).ge _
end Go.Aug

/- Plain: the part of ParJ that names no program. -/
namespace Go.Aug
set_option maxRecDepth 100000
set_option linter.unusedSimpArgs false
attribute [local irreducible] hid andK letA zR wN xX yH xR xE wR idxA ldV ldD addO xD appTo wF slA srcK nilQ retW gif sgd yT svc sops xQ yX aopO xT yU aBin aUn wK aLen zL yW zI yG xC yF yZ zJ zM yV zX yE xG xU frzM putE newK newV wP ACall xH wD zW sret cnd szs nilC yK zQ yA
attribute [local go_sem] Int.natCast_zero
structure RowX (α:Type) where
 k:Nat
 xs:List α
 s:RdS
 a:A
 R:Heap
structure RowJ {α:Type} (H:Heap) (ks:List Nat) (E:TypeId) (sz:Nat) (dd:α→D) (p:RdS→α×RdS) (l:List Tok) (s0:RdS) (x:RowX α):Prop where
 acc:Acc H ks E sz (x.xs.map dd) x.a x.R
 le:x.s.pos≤l.length
 run:yC p l x.k x.xs x.s=yC p l 10 [] s0
 sum:x.k+x.xs.length=10
 few:x.s.err=0→x.xs.length≤8
 nine:x.xs.length≤9
section
variable {α:Type} {H:Heap} {ks:List Nat} {E:TypeId} {sz:Nat} {dd:α→D} {p:RdS→α×RdS} {l:List Tok} {s0:RdS} {x:RowX α}
theorem RowJ.first (hs:s0.pos≤l.length):RowJ H ks E sz dd p l s0 ⟨10,[],s0,.nils,H⟩:=⟨.nils ..,hs,rfl,rfl,fun _=>by simp,by simp⟩
theorem RowJ.stop (h:RowJ H ks E sz dd p l s0 x) (he:x.s.err≠0):yC p l 10 [] s0=(x.xs,x.s):=by rw [←h.run,yJ he]
theorem RowJ.done (h:RowJ H ks E sz dd p l s0 x) (he:x.s.err=0) (hm:(xK l x.xs.length x.s).1=false):yC p l 10 [] s0=(x.xs,(xK l x.xs.length x.s).2):=by
 rw [←h.run]
 obtain ⟨k,hk⟩:∃ k,x.k=k+1:=⟨x.k - 1,by have:=h.sum; have:=h.nine; omega⟩
 rw [hk]; simp [yC,he,hm]
theorem RowJ.next (h:RowJ H ks E sz dd p l s0 x) (hp:vI l p) (hend:∀ s,rend l s=true→(p s).2.err≠0) (he:x.s.err=0) (hm:(xK l x.xs.length x.s).1=true) {a':A} {R':Heap}
  (hacc:Acc H ks E sz ((x.xs++[(p (xK l x.xs.length x.s).2).1]).map dd) a' R'):RowJ H ks E sz dd p l s0 ⟨x.k - 1,x.xs++[(p (xK l x.xs.length x.s).2).1],(p (xK l x.xs.length x.s).2).2,a',R'⟩∧x.k - 1 < x.k:=by
 obtain ⟨k,hk⟩:∃ k,x.k=k+1:=⟨x.k - 1,by have:=h.sum; have:=h.nine; omega⟩
 have hrun:=h.run
 have hsum:=h.sum
 have hfew:=h.few he
 rw [hk] at hrun hsum ⊢
 refine ⟨⟨hacc,hp.le _ (qN h.le), ?_, ?_, ?_, ?_⟩,by omega⟩
 ·rw [←hrun]; simp [yC,he,hm]
 ·simp only [List.length_append,List.length_cons,List.length_nil]; omega
 ·intro he'
  simp only [List.length_append,List.length_cons,List.length_nil]
  rcases Nat.lt_or_ge x.xs.length 8 with h8 | h8
  ·omega
  ·exact absurd he' (hend _ ((zAf hm).2.2 (by omega)))
 ·simp only [List.length_append,List.length_cons,List.length_nil]; omega
end
end Go.Aug

/- Plain: the part of ParK that names no program. -/
namespace Go.Aug
set_option maxRecDepth 100000
set_option linter.unusedSimpArgs false
attribute [local irreducible] hid andK letA zR wN xX yH xR xE wR idxA ldV ldD addO xD appTo wF slA srcK nilQ retW gif sgd yT svc sops xQ yX aopO xT yU aBin aUn wK aLen zL yW zI yG xC yF yZ zJ zM yV zX yE xG xU frzM putE newK newV wP ACall xH wD zW sret cnd szs nilC yK zQ yA
attribute [local go_sem] Int.natCast_zero
theorem zEP {l:List Tok} {k:Int} {s:RdS} (h:rend l s=true):(zS l k s).2.err≠0:=by
 have:zS l k s=(⟨#[]⟩,uC 2 s):=by simp [zS,h]
 rw [this]; exact vM (by decide) s
theorem zGf {l:List Tok} {t:ByteArray} {s:RdS} (h:rend l s=true):rgot l t s=(false,s):=by
 simp [rgot,ris,h]
theorem zLC {l:List Tok} {t:ByteArray} {s:RdS} (h:rend l s=true):(yR l t s).err≠0:=by
 unfold yR
 rw [zGf h]
 split
 ·simp only [Bool.false_eq_true,if_false]; exact vM (by decide) s
 ·assumption
theorem zC0 {l:List Tok} {s:RdS} (h:rend l s=true):(vU l s).2.err≠0:=by
 unfold vU
 rw [zGf h]
 simp only [Bool.false_eq_true,if_false]
 exact zLC h

def isDig (c:UInt8):Bool:=decide ((48:Int)≤(c.toNat:Int)) && decide ((c.toNat:Int)≤57)
def uB (c:UInt8):Bool:=decide ((97:Int)≤(c.toNat:Int)) && decide ((c.toNat:Int)≤122)
def uG (c:UInt8):Bool:=uB c || (decide ((65:Int)≤(c.toNat:Int)) && decide ((c.toNat:Int)≤90)) || decide ((c.toNat:Int)=95)
def xOf (c:UInt8):Int:=IntKind.i64.wrap (IntKind.u8.wrap ((c.toNat:Int) - 48))
def zF0 (n:Int) (c:UInt8):Bool:=decide ((c.toNat:Int) < 48) || decide ((57:Int) < (c.toNat:Int)) || decide (n < IntKind.i64.wrap (Int.tdiv (IntKind.i64.wrap (-9223372036854775808+xOf c)) 10))
def uJ (d:ByteArray):Nat→Int→Nat→Option Int
 | 0,n,_=>some n
 | k+1,n,i=>match d[i]? with
  | none=>some n
  | some c=>if zF0 n c=true then none else uJ d k (IntKind.i64.wrap (IntKind.i64.wrap (10 * n) - xOf c)) (i+1)
def uN (s:ByteArray) (n:Nat) (c:Int):Bool:=match s[n]? with
 | some b=>decide ((b.toNat:Int)=c)
 | none=>false
def zAA (s:ByteArray):ByteArray:=if uN s 0 45=true then s.extract 1 s.size else s
def rInt (s:ByteArray):Int×Bool :=
 if (zAA s).size=0∨19 < (zAA s).size∨(uN (zAA s) 0 48=true∧1 < s.size) then (0,false)
 else match uJ (zAA s) (zAA s).size 0 0 with
  | none=>(0,false)
  | some n=>if uN s 0 45=true then (n,true) else if n=-9223372036854775808 then (0,false) else (IntKind.i64.wrap (0 - n),true)
theorem zHI {s:ByteArray} {n:Nat} (h:n < s.size):∃ c,s[n]?=some c:=⟨s[n],by simp [h]⟩
def uD (p:UInt8→Bool) (s:ByteArray):Nat→Nat→Nat
 | 0,n=>n
 | k+1,n=>match s[n]? with
  | some c=>if p c=true then uD p s k (n+1) else n
  | none=>n
theorem zAd {p:UInt8→Bool} {s:ByteArray}:∀ (k n:Nat),n≤s.size→n≤uD p s k n∧uD p s k n≤s.size
 | 0,n,h=>⟨Nat.le_refl _,h⟩
 | k+1,n,h=>by
  simp only [uD]
  split
  ·rename_i c hc
   have hlt:n < s.size:=by
    apply Classical.byContradiction; intro hn
    simp [hn] at hc
   split
   ·have:=zAd (p:=p) k (n+1) hlt; omega
   ·exact ⟨Nat.le_refl _,h⟩
  ·exact ⟨Nat.le_refl _,h⟩
def kMarks:List Nat:=[40,41,44,46,59,124,61]
def zBp (s:ByteArray) (at_:Nat) (c:UInt8):Tok×Bool :=
 (⟨if uB c=true then 1 else 2,s.extract at_ (uD (fun c=>uG c || isDig c) s s.size at_),0⟩,decide (uD (fun c=>uG c || isDig c) s s.size at_ - at_≤32))
def zG2 (s:ByteArray) (n:Nat):Bool:=match s[n]? with
 | some c=>uG c
 | none=>false
def kP (s:ByteArray) (at_:Nat):Tok×Bool :=
 (⟨3,s.extract at_ (uD isDig s s.size (at_+1)),(rInt (s.extract at_ (uD isDig s s.size (at_+1)))).1⟩,
  (rInt (s.extract at_ (uD isDig s s.size (at_+1)))).2 && (decide (uD isDig s s.size (at_+1)=s.size) || !zG2 s (uD isDig s s.size (at_+1))))
def wV (s:ByteArray) (at_:Nat) (c:UInt8):Tok×Bool :=
 if uG c=true then zBp s at_ c
 else if isDig c=true∨(c.toNat:Int)=45 then kP s at_
 else if (c.toNat:Int)=58∧at_+1 < s.size∧uN s (at_+1) 45=true then (⟨4,⟨#[58,45]⟩,0⟩,true)
 else if kMarks.contains c.toNat=true then (⟨4,s.extract at_ (at_+1),0⟩,true)
 else (⟨0,⟨#[]⟩,0⟩,false)



def vC (c:UInt8):Bool:=decide ((c.toNat:Int)=9) || decide ((c.toNat:Int)=10) || decide ((c.toNat:Int)=13) || decide ((c.toNat:Int)=32)
def rAll (s:ByteArray):Nat→Nat→Bool→List Int→List Tok→List Int×List Tok×Bool
 | 0,_,_,pl,ts=>(pl,ts,true)
 | k+1,p,cm,pl,ts=>match s[p]? with
  | none=>(pl,ts,true)
  | some c=>if cm=true then rAll s k (p+1) (!decide ((c.toNat:Int)=10)) pl ts
   else if vC c=true then rAll s k (p+1) false pl ts
   else if (c.toNat:Int)=37 then rAll s k (p+1) true pl ts
   else if (wV s p c).2=true then rAll s k (p+(wV s p c).1.text.size) false (pl++[(p:Int)]) (ts++[(wV s p c).1])
   else (pl,ts,false)
theorem zAG {s:ByteArray} {p:Nat} {c:UInt8} (hp:s[p]?=some c) (h:(wV s p c).2=true):1≤(wV s p c).1.text.size∧p+(wV s p c).1.text.size≤s.size:=by
 have hlt:p < s.size:=by
  apply Classical.byContradiction; intro hn
  simp [hn] at hp
 unfold wV at h ⊢
 split
 ·rename_i hl
  simp only [zBp,ByteArray.size_extract]
  have h1:=zAd (p:=fun c=>uG c || isDig c) (s:=s) s.size p (Nat.le_of_lt hlt)
  have h2:p+1≤uD (fun c=>uG c || isDig c) s s.size p:=by
   obtain ⟨k,hk⟩:∃ k,s.size=k+1:=⟨s.size - 1,by omega⟩
   rw [hk]
   simp only [uD,hp,hl,Bool.true_or,if_true]
   exact (zAd k (p+1) hlt).1
  omega
 ·rename_i hl
  rw [if_neg hl] at h
  split
  ·simp only [kP,ByteArray.size_extract]
   have:=zAd (p:=isDig) (s:=s) s.size (p+1) hlt
   omega
  ·rename_i h2
   rw [if_neg h2] at h
   split
   ·rename_i h3
    exact ⟨by decide,by have:(ByteArray.mk #[58,45]).size=2:=rfl; have:=h3.2.1; simp only; omega⟩
   ·rename_i h3
    rw [if_neg h3] at h
    split
    ·simp only [ByteArray.size_extract]; omega
    ·rename_i h4
     rw [if_neg h4] at h; cases h

theorem zCl {s:ByteArray}:∀ (k p:Nat) (cm:Bool) (pl:List Int) (ts:List Tok),p≤s.size→ts.length≤p→(rAll s k p cm pl ts).2.1.length≤s.size
 | 0,p,cm,pl,ts,h1,h2=>by simp only [rAll]; omega
 | k+1,p,cm,pl,ts,h1,h2=>by
  simp only [rAll]
  split
  ·simp only; omega
  ·rename_i c hc
   have hlt:p < s.size:=by
    apply Classical.byContradiction; intro hn
    simp [hn] at hc
   repeat' split
   ·exact zCl k _ _ _ _ hlt (by omega)
   ·exact zCl k _ _ _ _ hlt (by omega)
   ·exact zCl k _ _ _ _ hlt (by omega)
   ·rename_i h
    have:=zAG hc h
    exact zCl k _ _ _ _ this.2 (by simp only [List.length_append,List.length_cons,List.length_nil]; omega)
   ·simp only; omega
def rlex (s:ByteArray):List Tok×Int :=
 if 16384 < s.size then ([],4) else if (rAll s s.size 0 false [] []).2.2=true then ((rAll s s.size 0 false [] []).2.1,0) else ([],1)
theorem zGh (s:ByteArray):(rlex s).1.length≤16384:=by
 unfold rlex
 repeat' split
 ·simp
 ·exact Nat.le_trans (zCl _ _ _ _ _ (Nat.zero_le _) (by simp)) (by omega)
 ·simp
end Go.Aug

/- Plain: a row of things, as the program's parser reads it. -/
namespace Go.Aug
set_option maxRecDepth 100000
set_option linter.unusedSimpArgs false
theorem jG {l:List Tok} {s:RdS} (he:s.err=0):rend l s=decide (l.length≤s.pos):=by simp [rend,he]
def zBD {α:Type} (q:RdS→α×RdS) (l:List Tok) (k:Nat) (xs:List α) (s:RdS):List α×RdS :=
 if (xZ l xs.length s).1=true then yC q l k (xs++[(q (xZ l xs.length s).2).1]) (q (xZ l xs.length s).2).2 else (xs,(xZ l xs.length s).2)
theorem zBt {α:Type} {q:RdS→α×RdS} {l:List Tok} {k:Nat} {s:RdS} (he:s.err=0):yC q l (k+1) [] s=if (rgot l ⟨#[40]⟩ s).1=true then zBD q l k [] (rgot l ⟨#[40]⟩ s).2 else ([],s):=by
 simp only [yC,if_pos he,xK,List.length_nil,if_true,zBD]
 cases h:(rgot l ⟨#[40]⟩ s).1 with
 | true=>simp only [if_true]
 | false=>simp only [Bool.false_eq_true,if_false,zT h]
theorem zCt {α:Type} {q:RdS→α×RdS} {l:List Tok} {k:Nat} {xs:List α} {s:RdS} (he:s.err=0) (h8:xs.length=8) (hl:s.pos < l.length):zBD q l k xs s=(xs,⟨s.pos,4⟩):=by
 have hr:rend l s=false:=by rw [jG he]; simp; omega
 have hf:xZ l xs.length s=(false,⟨s.pos,4⟩):=by
  rw [xZ,if_pos ⟨h8,hr⟩,uC,if_pos he]; rfl
 rw [zBD,hf]; simp only [Bool.false_eq_true,if_false]
theorem zAw {α:Type} {q:RdS→α×RdS} {l:List Tok} {k:Nat} {xs:List α} {s:RdS} (he:s.err=0) (h:¬ (xs.length=8∧s.pos < l.length)):zBD q l k xs s=yC q l k (xs++[(q s).1]) (q s).2:=by
 have hf:xZ l xs.length s=(true,s):=by
  rw [xZ,if_neg,he]; rfl
  rintro ⟨h1,h2⟩
  rw [jG he] at h2
  exact h ⟨h1,by simpa using h2⟩
 rw [zBD,hf]; simp only [if_true]
theorem zAO {α:Type} {q:RdS→α×RdS} {l:List Tok} {k:Nat} {xs:List α} {s:RdS} (he:s.err=0) (hx:xs≠[]) (hg:(rgot l ⟨#[41]⟩ s).1=true):yC q l (k+1) xs s=(xs,(rgot l ⟨#[41]⟩ s).2):=by
 have h0:¬ xs.length=0:=fun e=>hx (List.length_eq_zero_iff.1 e)
 have e:xK l xs.length s=(false,(rgot l ⟨#[41]⟩ s).2):=by rw [xK,if_neg h0,if_pos (.inl hg)]
 simp only [yC,if_pos he,e,Bool.false_eq_true,if_false]
theorem zAP {α:Type} {q:RdS→α×RdS} {l:List Tok} {k:Nat} {xs:List α} {s:RdS} (he:s.err=0) (hx:xs≠[]) (hg:(rgot l ⟨#[41]⟩ s).1=false) :
  yC q l (k+1) xs s=if (yR l ⟨#[44]⟩ s).err=0 then zBD q l k xs (yR l ⟨#[44]⟩ s) else (xs,yR l ⟨#[44]⟩ s):=by
 have h0:¬ xs.length=0:=fun e=>hx (List.length_eq_zero_iff.1 e)
 have e:xK l xs.length s=xZ l xs.length (yR l ⟨#[44]⟩ s):=by
  rw [xK,if_neg h0,zT hg,if_neg]
  rintro (h | h)
  ·rw [hg] at h; cases h
  ·exact h he
 simp only [yC,if_pos he,e]
 by_cases h1:(yR l ⟨#[44]⟩ s).err=0
 ·rw [if_pos h1,zBD]
 ·have hf:xZ l xs.length (yR l ⟨#[44]⟩ s)=(false,yR l ⟨#[44]⟩ s):=by
   rw [xZ,if_neg]
   ·simp [h1]
   ·rintro ⟨_,h2⟩
    exact h1 (uK h2).1
  rw [if_neg h1,hf]; simp only [Bool.false_eq_true,if_false]
@[go_sem] theorem zKD {H:Heap}:∀ {ds:List D} {K:List D→Heap→Prop},xU H (ds.map A.d) K=K ds H
 | [],K=>by simp only [List.map_nil,xU]
 | d::ds,K=>by simp only [List.map_cons,xU,xG]; exact zKD (ds:=ds) (K:=fun ds H=>K (d::ds) H)
structure PRow (α:Type) where
 k:Nat
 xs:List α
 s:RdS
 a:A
 R:Heap
def jW (l:List Tok) (n:Nat):Tok:=match l[n]? with
 | some t=>t
 | none=>⟨0,⟨#[]⟩,0⟩
theorem zAg {l:List Tok} {n:Nat} {t:Tok} (h:l[n]?=some t):jW l n=t:=by rw [jW,h]
theorem zCX {l:List Tok} {n:Nat} (h:l.length≤n):jW l n=⟨0,⟨#[]⟩,0⟩:=by rw [jW,List.getElem?_eq_none h]
theorem zBv {l:List Tok} {n:Nat} {s:RdS} (he:s.err=0):yD l n s=if 64 < n∧s.pos < l.length then ⟨s.pos,3⟩ else s:=by
 unfold yD rend uC
 rw [he]
 by_cases h:s.pos < l.length
 ·have h2:¬ l.length≤s.pos:=by omega
  simp [h,h2]
 ·have h2:l.length≤s.pos:=by omega
  simp [h,h2]
theorem zCs {l:List Tok} {n:Nat} {s:RdS} (he:s.err=0) (h:(yD l n s).err=0):yD l n s=s:=by
 rw [zBv he] at h ⊢
 split at h
 ·cases h
 ·rename_i hh; rw [if_neg hh]
theorem jK {l:List Tok} {k:Int} {s:RdS} (h:s.err≠0):zS l k s=(⟨#[]⟩,s):=by
 have hr:rend l s=true:=by simp [rend,h]
 simp [zS,hr,uC,h]
theorem wZ {l:List Tok} {t:ByteArray} {s:RdS} (h:s.err≠0):rgot l t s=(false,s):=by
 have hr:rend l s=true:=by simp [rend,h]
 simp [rgot,ris,hr]
theorem jH {l:List Tok} {t:ByteArray} {s:RdS} (h:s.err≠0):yR l t s=s:=by rw [yR,if_neg h]
theorem zHj {l:List Tok} {n:Nat} {s:RdS} (h:s.err≠0):yD l n s=s:=by
 have hr:rend l s=true:=by simp [rend,h]
 simp [yD,hr]
def zDQ {α:Type} (q:RdS→α×RdS):Prop:=∀ s,s.err≠0→(q s).2.err=s.err
theorem zBk (l:List Tok):∀ (f n:Nat),zDQ (yS f l n)
 | 0,n,s,h=>rfl
 | f+1,n,s,h=>by
  have hr:rend l s=true:=by simp [rend,h]
  simp only [yS,zHj h,hr,if_true,jK h,yJ h]
theorem zGj {f n:Nat} {l:List Tok} {s:RdS} (he:s.err=0) (h:(yD l n s).err=0):yS (f+1) l n s =
  if (jW l s.pos).kind=2 then (.mk 1 (jW l s.pos).text 0 [],⟨s.pos+1,0⟩) else if (jW l s.pos).kind=3 then (.mk 2 ⟨#[]⟩ (jW l s.pos).int [],⟨s.pos+1,0⟩)
  else (.mk 3 (zS l 1 s).1 0 (yC (yS f l (n+1)) l 10 [] (zS l 1 s).2).1,(yC (yS f l (n+1)) l 10 [] (zS l 1 s).2).2):=by
 have hn:=zCs he h
 cases hk:l[s.pos]? with
 | none =>
  have hl:=List.getElem?_eq_none_iff.1 hk
  have hr:rend l s=true:=by rw [jG he]; simp [hl]
  rw [zCX hl]
  simp only [yS,hn,hr,if_true]
  rw [if_neg (by decide),if_neg (by decide)]
 | some k =>
  have hl:=(List.getElem?_eq_some_iff.1 hk).1
  have hr:rend l s=false:=by rw [jG he]; simp; omega
  rw [zAg hk]
  simp only [yS,hn,hr,hk,Bool.false_eq_true,if_false,he]
  by_cases h3:k.kind=3
  ·rw [if_pos h3,if_neg (by omega),if_pos h3]
  ·rw [if_neg h3]
   by_cases h2:k.kind=2
   ·rw [if_pos h2,if_pos h2]
   ·rw [if_neg h2,if_neg h2,if_neg h3]
theorem zGl {f n:Nat} {l:List Tok} {s:RdS} (he:s.err=0) (h:(yD l n s).err=0):xN (f+1) l n s =
  if (jW l s.pos).kind=2 then (.mk true (jW l s.pos).text [],⟨s.pos+1,0⟩) else if (rgot l kInt s).1=true then (.mk false kInt [],(rgot l kInt s).2)
  else (.mk false (zS l 1 s).1 (yC (xN f l (n+1)) l 10 [] (zS l 1 s).2).1,(yC (xN f l (n+1)) l 10 [] (zS l 1 s).2).2):=by
 have hn:=zCs he h
 cases hk:l[s.pos]? with
 | none =>
  have hl:=List.getElem?_eq_none_iff.1 hk
  have hr:rend l s=true:=by rw [jG he]; simp [hl]
  have hv:zAr l s=none:=by rw [zAr,if_pos hr]
  rw [zCX hl]
  simp only [xN,hn,hv]
  rw [if_neg (c:=(0:Int)=2) (by decide)]
 | some k =>
  have hl:=(List.getElem?_eq_some_iff.1 hk).1
  have hr:rend l s=false:=by rw [jG he]; simp; omega
  rw [zAg hk]
  by_cases h2:k.kind=2
  ·have hv:zAr l s=some k:=by simp [zAr,hr,hk,h2]
   rw [if_pos h2]
   simp only [xN,hn,hv,he]
  ·have hv:zAr l s=none:=by simp [zAr,hr,hk,h2]
   rw [if_neg h2]
   simp only [xN,hn,hv]

def jV (q:RdS→Gl×RdS) (m:ByteArray) (l:List Tok):Nat→List Gl→RdS→List Gl×RdS
 | 0,gs,s=>(gs,s)
 | k+1,gs,s=>if (rgot l m s).1=true then jV q m l k (gs++[(q (rgot l m s).2).1]) (q (rgot l m s).2).2 else (gs,s)
def kR (kind:Int) (gs:List Gl):Gl:=if gs.length=1 then gs.headD default else .mk kind .none .none ⟨#[]⟩ [] gs
def wC (kind:Int) (m:ByteArray) (q:RdS→Gl×RdS) (l:List Tok) (s:RdS):Gl×RdS :=
 (kR kind (jV q m l l.length [(q s).1] (q s).2).1,(jV q m l l.length [(q s).1] (q s).2).2)
theorem zCq {q:RdS→Gl×RdS} {m:ByteArray} {l:List Tok} {k:Nat} {gs:List Gl} {s:RdS} (h:s.err≠0):jV q m l k gs s=(gs,s):=by
 cases k with
 | zero=>rfl
 | succ k=>simp only [jV,wZ h,Bool.false_eq_true,if_false]
theorem zGg {q:RdS→Gl×RdS} {m:ByteArray} {l:List Tok}:∀ (k:Nat) (gs:List Gl) (s:RdS),gs≠[]→(jV q m l k gs s).1≠[]
 | 0,_,_,h=>h
 | k+1,gs,s,h=>by
  simp only [jV]; split
  ·exact zGg k _ _ (by simp)
  ·exact h
theorem zAS {q:RdS→Gl×RdS} {m:ByteArray} {l:List Tok} (hq:vI l q):∀ (k:Nat) (gs:List Gl),vI l (jV q m l k gs)
 | 0,_=>⟨fun _ h=>h,fun _=>Nat.le_refl _⟩
 | k+1,gs=>by
  constructor
  ·intro s h
   simp only [jV]; split
   ·exact (zAS hq k _).le _ (hq.le _ (yQ h))
   ·exact h
  ·intro s
   simp only [jV]; split
   ·exact Nat.le_trans (wG ..) (Nat.le_trans (hq.ge _) ((zAS hq k _).ge _))
   ·exact Nat.le_refl _
theorem zCr {kind:Int} {m:ByteArray} {q:RdS→Gl×RdS} {l:List Tok} (hq:vI l q):vI l (wC kind m q l) :=
 ⟨fun s h=>(zAS hq _ _).le _ (hq.le s h),fun s=>Nat.le_trans (hq.ge s) ((zAS hq _ _).ge _)⟩
theorem zFu (q:RdS→Gl×RdS) (l:List Tok):∀ (k:Nat) (gs:List Gl) (s:RdS),zAa q l k gs s=jV q wM l k gs s
 | 0,_,_=>rfl
 | k+1,gs,s=>by simp only [zAa,jV,zFu q l k]
theorem zEM (q:RdS→Gl×RdS) (l:List Tok) (s:RdS):rway q l s=wC 5 wM q l s:=by
 have hne:=zGg (q:=q) (m:=wM) (l:=l) l.length [(q s).1] (q s).2 (by simp)
 rw [rway,zFu,wC]
 congr 1
 generalize (jV q wM l l.length [(q s).1] (q s).2).1=gs at hne ⊢
 unfold zA0 kR
 have:0 < gs.length:=List.length_pos_iff.2 hne
 by_cases h:gs.length=1
 ·rw [if_pos h,if_neg (by omega)]
 ·rw [if_neg h,if_pos (by omega)]
theorem zEN {q:RdS→Gl×RdS} {l:List Tok} (hq:vI l q):vI l (rway q l):=by
 have:=zCr (kind:=5) (m:=wM) hq
 exact ⟨fun s h=>by rw [zEM]; exact this.le s h,fun s=>by rw [zEM]; exact this.ge s⟩
theorem zHk {q:RdS→Gl×RdS} {l:List Tok} (hq:vI l q):∀ (k:Nat) (os:List Gl) (s:RdS),s.err=0→l.length≤k+s.pos→rors q l (k+1) os s=jV (rway q l) zAl l k (os++[(rway q l s).1]) (rway q l s).2
 | 0,os,s,he,hk=>by
  have hge:=(zEN hq).ge s
  have hno:(rgot l zAl (rway q l s).2).1=false:=by
   cases h:(rgot l zAl (rway q l s).2).1 with
   | false=>rfl
   | true=>have:=(wA h).2.2; omega
  simp only [rors,jV,if_pos he,hno,Bool.false_eq_true,if_false]
 | k+1,os,s,he,hk=>by
  have hge:=(zEN hq).ge s
  rw [rors,jV,if_pos he]
  cases h:(rgot l zAl (rway q l s).2).1 with
  | false=>simp only [Bool.false_eq_true,if_false]
  | true =>
   obtain ⟨h1,h2,h3⟩:=wA h
   simp only [if_true]
   exact zHk hq k _ _ (by rw [wE]; exact h1) (by omega)
theorem zCU {q:RdS→Gl×RdS} {l:List Tok} (hq:vI l q) {s:RdS} (he:s.err=0):uQ q l s=wC 6 zAl (wC 5 wM q l) l s:=by
 have e:rway q l=wC 5 wM q l:=funext (zEM q l)
 rw [uQ,zHk hq l.length [] s he (by omega),e,wC]
 rfl
theorem zDk (l:List Tok):∀ (f n:Nat),zDQ (xP f l n)
 | 0,n,s,h=>rfl
 | f+1,n,s,h=>by
  have ht:=zBk l f (n+1) s h
  have ht2:(yS f l (n+1) s).2.err≠0:=by rw [ht]; exact h
  simp only [xP,zHj h,wZ h,Bool.false_eq_true,if_false,zBf,wZ ht2,uC,if_neg ht2]
  split <;> exact ht
theorem zFE {l:List Tok} {f n:Nat} {s:RdS} (h:(yD l n s).err≠0):(xP (f+1) l n s).2.err=(yD l n s).err:=by
 have ht:=zBk l f (n+1) _ h
 have ht2:(yS f l (n+1) (yD l n s)).2.err≠0:=by rw [ht]; exact h
 simp only [xP,wZ h,Bool.false_eq_true,if_false,zBf,wZ ht2,uC,if_neg ht2]
 split <;> exact ht
theorem zOC {l:List Tok} {n:Nat} {s:RdS} (he:s.err=0) (h:(yD l n s).err=0) (hl:s.pos < l.length):n≤64:=by
 rw [zBv he] at h
 apply Classical.byContradiction; intro hh
 rw [if_pos ⟨by omega,hl⟩] at h
 cases h
theorem zLH {q:RdS→Gl×RdS} {l:List Tok} {s:RdS} (hq:zDQ q):(rtry q l s).1=.mk 9 .none .none (zS l 2 (yR l vS (q s).2)).1 [] [(q s).1,(q (yR l zAM (zS l 2 (yR l vS (q s).2)).2)).1]∧(rtry q l s).2=(q (yR l zAM (zS l 2 (yR l vS (q s).2)).2)).2:=⟨rfl,rfl⟩
theorem zQX {q:RdS→Gl×RdS} {l:List Tok} {s:RdS} (hq:zDQ q) (h:(q s).2.err≠0):(rtry q l s).2.err=(q s).2.err:=by
 simp only [rtry,jH h,jK h]; exact hq _ h
theorem zQY {q:RdS→Gl×RdS} {l:List Tok} {s:RdS} (hq:zDQ q) (h:(yR l vS (q s).2).err≠0):(rtry q l s).2.err=(yR l vS (q s).2).err:=by
 simp only [rtry,jK h,jH h]; exact hq _ h
theorem zQZ {q:RdS→Gl×RdS} {l:List Tok} {s:RdS} (hq:zDQ q) (h:(zS l 2 (yR l vS (q s).2)).2.err≠0):(rtry q l s).2.err=(zS l 2 (yR l vS (q s).2)).2.err:=by
 simp only [rtry,jH h]; exact hq _ h
theorem zQ0 {q:RdS→Gl×RdS} {l:List Tok} {s:RdS} (hq:zDQ q) (h:(yR l zAM (zS l 2 (yR l vS (q s).2)).2).err≠0):(rtry q l s).2.err=(yR l zAM (zS l 2 (yR l vS (q s).2)).2).err:=by
 simp only [rtry]; exact hq _ h

theorem zAZ {s:ByteArray} {p:Nat} {c:UInt8} (h:s[p]?=some c):p < s.size:=by
 apply Classical.byContradiction; intro hn
 simp [hn] at h
theorem zBJ {s:ByteArray} {p:Nat} (h:s.size≤p):s[p]?=none:=by
 have:¬ p < s.size:=by omega
 simp [this]
theorem zBd {s:ByteArray}:∀ (k j p:Nat) (cm:Bool) (pl:List Int) (ts:List Tok),s.size≤k+p→s.size≤j+p→rAll s k p cm pl ts=rAll s j p cm pl ts
 | 0,0,p,cm,pl,ts,_,_=>rfl
 | 0,j+1,p,cm,pl,ts,h,_=>by simp only [rAll,zBJ (s:=s) (p:=p) (by omega)]
 | k+1,0,p,cm,pl,ts,_,h=>by simp only [rAll,zBJ (s:=s) (p:=p) (by omega)]
 | k+1,j+1,p,cm,pl,ts,h1,h2=>by
  have a1:s.size≤k+(p+1):=by omega
  have a2:s.size≤j+(p+1):=by omega
  have a3:∀ m,1≤m→s.size≤k+(p+m):=fun m hm=>by omega
  have a4:∀ m,1≤m→s.size≤j+(p+m):=fun m hm=>by omega
  simp only [rAll]
  cases hc:s[p]? with
  | none=>rfl
  | some c =>
   have e1:=zBd k j (p+1) (!decide ((c.toNat:Int)=10)) pl ts a1 a2
   have e2:=zBd k j (p+1) false pl ts a1 a2
   have e3:=zBd k j (p+1) true pl ts a1 a2
   simp only [e2,e3]
   repeat' split
   all_goals first | rfl | skip
   all_goals first | exact e1 | skip
   rename_i hw
   have hsz:=zAG hc hw
   exact zBd k j _ _ _ _ (a3 _ hsz.1) (a4 _ hsz.1)
theorem zLs {s:ByteArray}:∀ (k p:Nat) (cm:Bool) (pl pl':List Int) (ts:List Tok),(rAll s k p cm pl ts).2=(rAll s k p cm pl' ts).2
 | 0,_,_,_,_,_=>rfl
 | k+1,p,cm,pl,pl',ts=>by
  simp only [rAll]
  cases hc:s[p]? with
  | none=>rfl
  | some c =>
   simp only
   repeat' split
   all_goals first | rfl | exact zLs k _ _ _ _ _
def toks (s:ByteArray) (p:Nat) (cm:Bool) (ts:List Tok):List Tok×Bool:=(rAll s (s.size - p) p cm [] ts).2
theorem zGu {s:ByteArray} {p:Nat} {cm:Bool} {ts:List Tok} (h:s.size≤p):toks s p cm ts=(ts,true):=by
 unfold toks
 rw [show s.size - p=0 by omega]
 simp only [rAll]
theorem zAq {s:ByteArray} {p:Nat} {cm:Bool} {ts:List Tok} {c:UInt8} (h:s[p]?=some c):toks s p cm ts =
  if cm=true then toks s (p+1) (!decide ((c.toNat:Int)=10)) ts else if vC c=true then toks s (p+1) false ts else if (c.toNat:Int)=37 then toks s (p+1) true ts
  else if (wV s p c).2=true then toks s (p+(wV s p c).1.text.size) false (ts++[(wV s p c).1]) else (ts,false):=by
 have hlt:=zAZ h
 unfold toks
 obtain ⟨k,hk⟩:∃ k,s.size - p=k+1:=⟨s.size - p - 1,by omega⟩
 rw [hk,show s.size - (p+1)=k by omega]
 simp only [rAll,h]
 cases cm with
 | true=>simp only [if_true]
 | false =>
  simp only [Bool.false_eq_true,if_false]
  split
  ·rfl
  ·split
   ·rfl
   ·split
    ·rename_i hw
     have hsz:=zAG h hw
     rw [zBd k (s.size - (p+(wV s p c).1.text.size)) _ _ _ _ (by omega) (by omega)]
     exact zLs ..
    ·rfl
theorem zLB (s:ByteArray):rlex s=if 16384 < s.size then ([],4) else if (toks s 0 false []).2=true then ((toks s 0 false []).1,0) else ([],1):=by
 unfold rlex toks
 rfl
def uE (q:UInt8→Bool) (s:ByteArray) (n:Nat):Nat:=uD q s (s.size - n) n
theorem zFG {q:UInt8→Bool} {s:ByteArray}:∀ (k j n:Nat),s.size≤k+n→s.size≤j+n→uD q s k n=uD q s j n
 | 0,0,n,_,_=>rfl
 | 0,j+1,n,h,_=>by simp only [uD,zBJ (s:=s) (p:=n) (by omega)]
 | k+1,0,n,_,h=>by simp only [uD,zBJ (s:=s) (p:=n) (by omega)]
 | k+1,j+1,n,h1,h2=>by
  have e:=zFG (q:=q) (s:=s) k j (n+1) (by omega) (by omega)
  simp only [uD,e]
theorem zAp {q:UInt8→Bool} {s:ByteArray} {n:Nat}:uD q s s.size n=uE q s n:=zFG _ _ _ (by omega) (by omega)
theorem zFJ {q:UInt8→Bool} {s:ByteArray} {n:Nat} (h:s.size≤n):uE q s n=n:=by
 unfold uE
 rw [show s.size - n=0 by omega]
 simp only [uD]
theorem zAV {q:UInt8→Bool} {s:ByteArray} {n:Nat} {c:UInt8} (h:s[n]?=some c):uE q s n=if q c=true then uE q s (n+1) else n:=by
 have hlt:=zAZ h
 unfold uE
 obtain ⟨k,hk⟩:∃ k,s.size - n=k+1:=⟨s.size - n - 1,by omega⟩
 rw [hk,show s.size - (n+1)=k by omega]
 simp only [uD,h]
theorem zEV {q:UInt8→Bool} {s:ByteArray} {n:Nat} (h:n≤s.size):n≤uE q s n∧uE q s n≤s.size:=by
 rw [←zAp]; exact zAd _ _ h
theorem zBZ {q:UInt8→Bool} {s:ByteArray}:∀ (m n:Nat),s.size - n=m→∀ x,s[uE q s n]?=some x→q x=false
 | 0,n,h,x,hx=>by
  rw [zFJ (by omega),zBJ (by omega)] at hx; cases hx
 | m+1,n,h,x,hx=>by
  obtain ⟨c,hc⟩:∃ c,s[n]?=some c:=⟨s[n]'(by omega),by simp⟩
  have hst:=zAV (q:=q) hc
  cases hq:q c with
  | true=>rw [hst,hq,if_pos rfl] at hx; exact zBZ m (n+1) (by omega) x hx
  | false=>rw [hst,hq,if_neg Bool.false_ne_true,hc] at hx; cases hx; exact hq
theorem zGt {s:ByteArray} {ts:List Tok}:∀ (m p:Nat),(∀ j,p≤j→j < p+m→∃ c,s[j]?=some c∧¬ (c.toNat:Int)=10)→toks s p true ts=toks s (p+m) true ts
 | 0,p,_=>rfl
 | m+1,p,h=>by
  obtain ⟨c,hc,hn⟩:=h p (Nat.le_refl _) (by omega)
  rw [zAq hc,if_pos rfl,show (!decide ((c.toNat:Int)=10))=true by simp [hn],zGt m (p+1) (fun j h1 h2=>h j (by omega) (by omega))]
  congr 1; omega
theorem zC9:∀ (l:List UInt8) (c:UInt8),(Lib.indexByte l c=-1∧∀ x ∈ l,x≠c)∨∃ n:Nat,Lib.indexByte l c=(n:Int)∧n < l.length∧l[n]?=some c∧∀ j,j < n→∀ x,l[j]?=some x→x≠c
 | [],c=>.inl ⟨rfl,fun x h=>by cases h⟩
 | b::l,c=>by
  by_cases hb:b=c
  ·subst hb
   exact .inr ⟨0,by simp [Lib.indexByte],by simp,rfl,fun j h=>by omega⟩
  ·have hb':(b == c)=false:=by simpa using hb
   rcases zC9 l c with ⟨h1,h2⟩ | ⟨n,h1,h2,h3,h4⟩
   ·refine .inl ⟨by simp [Lib.indexByte,hb',h1],fun x hx=>?_⟩
    rcases List.mem_cons.1 hx with rfl | hx
    ·exact hb
    ·exact h2 x hx
   ·refine .inr ⟨n+1, ?_,by simpa using h2,by simpa using h3,fun j hj x hx=>?_⟩
    ·have:¬ ((n:Int) == -1)=true:=by simp
     simp only [Lib.indexByte,hb',h1,Bool.false_eq_true,if_false]
     rw [if_neg this]; omega
    ·cases j with
     | zero=>simp at hx; rw [←hx]; exact hb
     | succ j=>exact h4 j (by omega) x (by simpa using hx)
def zSq (s:ByteArray) (p p':Nat):Prop:=p≤p'∧p'≤s.size∧(∀ ts,toks s p false ts=toks s p' false ts)∧∀ c,s[p']?=some c→vC c=false∧¬ (c.toNat:Int)=37
theorem qK {s:ByteArray} {i:Nat}:s[i]?=s.data.toList[i]?:=by
 by_cases h:i < s.size
 ·rw [getElem?_pos s i h,List.getElem?_eq_getElem (by simpa using h)]; rfl
 ·rw [getElem?_neg s i h,List.getElem?_eq_none (by simpa using h)]
theorem zC5 (s:ByteArray) (n:Nat):(s.extract n s.size).data.toList=s.data.toList.drop n:=by
 rw [ByteArray.data_extract,Array.toList_extract,List.extract_eq_drop_take,List.take_of_length_le]
 simp
theorem zPF {s:ByteArray} {n:Nat} {c:UInt8} (hc:s[n]?=some c) (h37:(c.toNat:Int)=37) (hno:∀ x ∈ s.data.toList.drop n,x≠10) (ts:List Tok):toks s n false ts=toks s s.size false ts:=by
 have hlt:=zAZ hc
 have hb:vC c=false:=by simp [vC]; omega
 rw [zAq hc,if_neg Bool.false_ne_true,if_neg (by rw [hb]; exact Bool.false_ne_true),if_pos h37,zGt (s.size - (n+1)) (n+1) (fun j h1 h2=>?_)]
 ·rw [show n+1+(s.size - (n+1))=s.size by omega,zGu (Nat.le_refl _),zGu (Nat.le_refl _)]
 ·have hj:j < s.size:=by omega
  refine ⟨s[j],by simp [hj],fun he=>?_⟩
  have:s[j] ∈ s.data.toList.drop n:=List.mem_iff_getElem?.2 ⟨j - n,by rw [List.getElem?_drop,show n+(j - n)=j by omega,←qK]; simp [hj]⟩
  exact hno _ this (UInt8.toNat_inj.1 (by show (s[j]).toNat=10; omega))
theorem zML {s:ByteArray} {n m:Nat} {c:UInt8} (hc:s[n]?=some c) (h37:(c.toNat:Int)=37) (hm:(s.data.toList.drop n)[m]?=some 10) (hno:∀ j,j < m→∀ x,(s.data.toList.drop n)[j]?=some x→x≠10) (ts:List Tok):toks s n false ts=toks s (n+m) false ts:=by
 have hlt:=zAZ hc
 have hb:vC c=false:=by simp [vC]; omega
 have hm':s[n+m]?=some 10:=by rw [qK,←List.getElem?_drop]; exact hm
 have hltm:=zAZ hm'
 have hm0:m≠0:=fun e=>by subst e; rw [Nat.add_zero,hc] at hm'; cases hm'; revert h37; decide
 rw [zAq hc,if_neg Bool.false_ne_true,if_neg (by rw [hb]; exact Bool.false_ne_true),if_pos h37,zGt (m - 1) (n+1) (fun j h1 h2=>?_)]
 ·rw [show n+1+(m - 1)=n+m by omega,zAq (cm:=true) hm',if_pos rfl,zAq (cm:=false) hm',if_neg Bool.false_ne_true,if_pos (by decide)]
  rfl
 ·have hj:j < s.size:=by omega
  have hsj:s[j]?=some s[j]:=by simp [hj]
  refine ⟨s[j],hsj,fun he=>?_⟩
  exact hno (j - n) (by omega) s[j] (by rw [List.getElem?_drop,show n+(j - n)=j by omega,←qK]; exact hsj) (UInt8.toNat_inj.1 (by show (s[j]).toNat=10; omega))
end Go.Aug

/- Plain: rows that are not long: what the reader makes is small. -/
namespace Go.Aug
set_option maxRecDepth 100000
set_option linter.unusedSimpArgs false
attribute [local irreducible] hid andK letA zR wN xX yH xR xE wR idxA ldV ldD addO xD appTo wF slA srcK nilQ retW gif sgd yT svc sops xQ yX aopO xT yU aBin aUn wK aLen zL yW zI yG xC yF yZ zJ zM yV zX yE xG xU frzM putE newK newV wP ACall xH wD zW sret cnd szs nilC yK zQ yA
attribute [local go_sem] Int.natCast_zero
mutual
def Tm.small:Tm→Prop
 | .mk _ _ _ xs=>xs.length≤32768∧Tm.smalls xs
def Tm.smalls:List Tm→Prop
 | []=>True
 | t::ts=>t.small∧Tm.smalls ts
end
theorem Tm.smalls_mem:∀ {ts:List Tm},Tm.smalls ts→∀ t ∈ ts,t.small
 | _::_,h,_,.head _=>h.1
 | _::_,h,t,.tail _ ht=>Tm.smalls_mem h.2 t ht
mutual
def Ty.small:Ty→Prop
 | .mk _ _ xs=>xs.length≤32768∧Ty.smalls xs
def Ty.smalls:List Ty→Prop
 | []=>True
 | t::ts=>t.small∧Ty.smalls ts
end
theorem Ty.smalls_mem:∀ {ts:List Ty},Ty.smalls ts→∀ t ∈ ts,t.small
 | _::_,h,_,.head _=>h.1
 | _::_,h,t,.tail _ ht=>Ty.smalls_mem h.2 t ht
mutual
def Gl.small:Gl→Prop
 | .mk _ a b _ xs gs=>a.small∧b.small∧xs.length≤32768∧Tm.smalls xs∧gs.length≤32768∧Gl.smalls gs
def Gl.smalls:List Gl→Prop
 | []=>True
 | t::ts=>t.small∧Gl.smalls ts
end
theorem Gl.smalls_mem:∀ {ts:List Gl},Gl.smalls ts→∀ t ∈ ts,t.small
 | _::_,h,_,.head _=>h.1
 | _::_,h,t,.tail _ ht=>Gl.smalls_mem h.2 t ht
structure It.small (it:It):Prop where
 vars:it.vars.length≤32768
 nct:it.ctors.length≤32768
 ctors:∀ c ∈ it.ctors,c.args.length≤32768∧Ty.smalls c.args
 types:it.types.length≤32768∧Ty.smalls it.types
 ways:it.ways.length≤32768
 args:it.args.length≤32768∧Tm.smalls it.args
 body:it.body.small
theorem zAH {α:Type} {P:α→Prop} {p:RdS→α×RdS} {l:List Tok} (hp:∀ s,P (p s).1):∀ (k:Nat) (xs:List α) (s:RdS),(∀ x ∈ xs,P x)→∀ x ∈ (yC p l k xs s).1,P x
 | 0,xs,s,h=>h
 | k+1,xs,s,h=>by
  simp only [yC]
  repeat' split
  ·refine zAH hp k _ _ fun x hx=>?_
   rcases List.mem_append.1 hx with hx | hx
   ·exact h x hx
   ·rw [List.mem_singleton.1 hx]; exact hp _
  ·exact h
  ·exact h
theorem kF {α:Type} {p:RdS→α×RdS} {l:List Tok}:∀ (k:Nat) (xs:List α) (s:RdS),(yC p l k xs s).1.length≤xs.length+k
 | 0,xs,s=>Nat.le_refl _
 | k+1,xs,s=>by
  simp only [yC]
  repeat' split
  ·have:=kF (p:=p) (l:=l) k (xs++[(p (xK l xs.length s).2).1]) (p (xK l xs.length s).2).2
   simp only [List.length_append,List.length_cons,List.length_nil] at this; omega
  ·simp only; omega
  ·simp only; omega
theorem Tm.smalls_of:∀ {ts:List Tm},(∀ t ∈ ts,t.small)→Tm.smalls ts
 | [],_=>trivial
 | _::_,h=>⟨h _ (.head _),Tm.smalls_of fun t ht=>h t (.tail _ ht)⟩
theorem Ty.smalls_of:∀ {ts:List Ty},(∀ t ∈ ts,t.small)→Ty.smalls ts
 | [],_=>trivial
 | _::_,h=>⟨h _ (.head _),Ty.smalls_of fun t ht=>h t (.tail _ ht)⟩
theorem Gl.smalls_of:∀ {ts:List Gl},(∀ t ∈ ts,t.small)→Gl.smalls ts
 | [],_=>trivial
 | _::_,h=>⟨h _ (.head _),Gl.smalls_of fun t ht=>h t (.tail _ ht)⟩
theorem Tm.small_leaf (k:Int) (n:ByteArray) (i:Int):(Tm.mk k n i []).small:=by simp [Tm.small,Tm.smalls]
theorem Ty.small_leaf (v:Bool) (n:ByteArray):(Ty.mk v n []).small:=by simp [Ty.small,Ty.smalls]
theorem jX {l:List Tok}:∀ (f n:Nat) (s:RdS),(yS f l n s).1.small
 | 0,_,_=>Tm.small_leaf _ _ _
 | f+1,n,s=>by
  have hrow:∀ s,(Tm.mk 3 (zS l 1 (yD l n s)).1 0 (yC (yS f l (n+1)) l 10 [] (zS l 1 (yD l n s)).2).1).small:=fun s=>by
   refine ⟨?_,Tm.smalls_of (zAH (fun s=>jX f (n+1) s) 10 [] _ (by simp))⟩
   have:=kF (p:=yS f l (n+1)) (l:=l) 10 [] (zS l 1 (yD l n s)).2
   simp only [List.length_nil] at this; omega
  simp only [yS]
  split
  ·split
   ·exact Tm.small_leaf _ _ _
   ·split
    ·exact Tm.small_leaf _ _ _
    ·exact hrow s
  ·exact hrow s
theorem zBX {l:List Tok}:∀ (f n:Nat) (s:RdS),(xN f l n s).1.small
 | 0,_,_=>Ty.small_leaf _ _
 | f+1,n,s=>by
  have hrow:∀ nm s,(Ty.mk false nm (yC (xN f l (n+1)) l 10 [] s).1).small:=fun nm s=>by
   refine ⟨?_,Ty.smalls_of (zAH (fun s=>zBX f (n+1) s) 10 [] _ (by simp))⟩
   have:=kF (p:=xN f l (n+1)) (l:=l) 10 [] s
   simp only [List.length_nil] at this; omega
  simp only [xN]
  repeat' split
  all_goals first
   | exact Ty.small_leaf _ _
   | exact hrow _ _
theorem Tm.small_none:Tm.none.small:=Tm.small_leaf _ _ _
theorem zHb {P:Gl→Prop} {p:RdS→Gl×RdS} {l:List Tok} (hp:∀ s,P (p s).1):∀ (k:Nat) (gs:List Gl) (s:RdS),(∀ x ∈ gs,P x)→∀ x ∈ (zAa p l k gs s).1,P x
 | 0,gs,s,h=>h
 | k+1,gs,s,h=>by
  simp only [zAa]
  split
  ·refine zHb hp k _ _ fun x hx=>?_
   rcases List.mem_append.1 hx with hx | hx
   ·exact h x hx
   ·rw [List.mem_singleton.1 hx]; exact hp _
  ·exact h
theorem zDf {p:RdS→Gl×RdS} {l:List Tok}:∀ (k:Nat) (gs:List Gl) (s:RdS),(zAa p l k gs s).1.length≤gs.length+k
 | 0,gs,s=>Nat.le_refl _
 | k+1,gs,s=>by
  simp only [zAa]
  split
  ·have:=zDf (p:=p) (l:=l) k (gs++[(p (rgot l wM s).2).1]) (p (rgot l wM s).2).2
   simp only [List.length_append,List.length_cons,List.length_nil] at this; omega
  ·simp only; omega
theorem Gl.small_none (k:Int):(Gl.mk k .none .none ⟨#[]⟩ [] []).small:=by
 simp [Gl.small,Gl.smalls,Tm.smalls,Tm.small_none]
theorem Gl.small_row (k:Int) {gs:List Gl} (h:∀ g ∈ gs,g.small) (hl:gs.length≤32768):(Gl.mk k .none .none ⟨#[]⟩ [] gs).small:=by
 simp only [Gl.small,Tm.smalls,List.length_nil]
 exact ⟨Tm.small_none,Tm.small_none,by omega,trivial,hl,Gl.smalls_of h⟩
theorem zGR {P:Gl→Prop} {gs:List Gl} (h:∀ g ∈ gs,P g) (hd:P default):P (gs.headD default):=by
 cases gs with
 | nil=>exact hd
 | cons g gs=>exact h g (.head _)
theorem zJ7 {p:RdS→Gl×RdS} {l:List Tok} (hl:l.length≤16384) (hp:∀ s,(p s).1.small) (s:RdS):(rway p l s).1.small:=by
 simp only [rway,zA0]
 have h1:=zHb (l:=l) hp l.length [(p s).1] (p s).2 (by simp [hp])
 have h2:=zDf (p:=p) (l:=l) l.length [(p s).1] (p s).2
 simp only [List.length_cons,List.length_nil] at h2
 split
 ·exact Gl.small_row 5 h1 (by omega)
 ·exact zGR h1 (Gl.small_none _)
theorem zI9 {p:RdS→Gl×RdS} {l:List Tok} (hl:l.length≤16384) (hp:∀ s,(p s).1.small):∀ (k:Nat) (os:List Gl) (s:RdS),(∀ x ∈ os,x.small)→∀ x ∈ (rors p l k os s).1,x.small
 | 0,os,s,h=>h
 | k+1,os,s,h=>by
  have h2:∀ x ∈ os++[(rway p l s).1],x.small:=fun x hx=>by
   rcases List.mem_append.1 hx with hx | hx
   ·exact h x hx
   ·rw [List.mem_singleton.1 hx]; exact zJ7 hl hp s
  simp only [rors]
  repeat' split
  ·exact zI9 hl hp k _ _ h2
  ·exact h2
  ·exact h
theorem zEG {p:RdS→Gl×RdS} {l:List Tok}:∀ (k:Nat) (os:List Gl) (s:RdS),(rors p l k os s).1.length≤os.length+k
 | 0,os,s=>Nat.le_refl _
 | k+1,os,s=>by
  simp only [rors]
  repeat' split
  ·have:=zEG (p:=p) (l:=l) k (os++[(rway p l s).1]) (rgot l zAl (rway p l s).2).2
   simp only [List.length_append,List.length_cons,List.length_nil] at this; omega
  ·simp only [List.length_append,List.length_cons,List.length_nil]; omega
  ·simp only; omega
theorem zDj {p:RdS→Gl×RdS} {l:List Tok} (hl:l.length≤16384) (hp:∀ s,(p s).1.small) (s:RdS):(uQ p l s).1.small:=by
 simp only [uQ,zJv]
 have h1:=zI9 hl hp (l.length+1) [] s (by simp)
 have h2:=zEG (p:=p) (l:=l) (l.length+1) [] s
 simp only [List.length_nil] at h2
 split
 ·exact zGR h1 (Gl.small_none _)
 ·exact Gl.small_row 6 h1 (by omega)
theorem Tm.small_args {t:Tm} (h:t.small):t.args.length≤32768∧Tm.smalls t.args:=by
 cases t; exact h
theorem zEJ {l:List Tok} (hl:l.length≤16384):∀ (f n:Nat) (s:RdS),(xP f l n s).1.small
 | 0,_,_=>Gl.small_none _
 | f+1,n,s=>by
  have ih:=fun s=>zEJ hl f (n+1) s
  simp only [xP]
  repeat' split
  ·exact Gl.small_none _
  ·exact Gl.small_none _
  ·exact Gl.small_row 7 (by simp [ih]) (by simp)
  ·simp only [Gl.small,Tm.smalls,Gl.smalls,List.length_nil]
   exact ⟨jX _ _ _,Tm.small_none,by omega,trivial,by omega,trivial⟩
  ·simp only [rtry,Gl.small,Tm.smalls,Gl.smalls,List.length_nil,List.length_cons]
   exact ⟨Tm.small_none,Tm.small_none,by omega,trivial,by omega,ih _,ih _,trivial⟩
  ·exact zDj hl ih _
  ·simp only [zBf]
   split
   ·simp only [Gl.small,Tm.smalls,Gl.smalls,List.length_nil]
    exact ⟨jX _ _ _,jX _ _ _,by omega,trivial,by omega,trivial⟩
   ·have:=Tm.small_args (jX (l:=l) f (n+1) (yD l n s))
    simp only [Gl.small,Gl.smalls,List.length_nil]
    exact ⟨Tm.small_none,Tm.small_none,this.1,this.2,by omega,trivial⟩
theorem zEy {l:List Tok} (s:RdS):(vW l s).1.args.length≤32768∧Ty.smalls (vW l s).1.args:=by
 refine ⟨?_,Ty.smalls_of (zAH (fun s=>zBX 66 1 s) 10 [] _ (by simp))⟩
 have:=kF (p:=xN 66 l 1) (l:=l) 10 [] (zS l 1 s).2
 simp only [List.length_nil] at this; simp only [vW]; omega
theorem zHc {P:Ct→Prop} {l:List Tok} (hp:∀ s,P (vW l s).1):∀ (k:Nat) (cs:List Ct) (s:RdS),(∀ x ∈ cs,P x)→∀ x ∈ (qA l k cs s).1,P x
 | 0,cs,s,h=>h
 | k+1,cs,s,h=>by
  simp only [qA]
  split
  ·refine zHc hp k _ _ fun x hx=>?_
   rcases List.mem_append.1 hx with hx | hx
   ·exact h x hx
   ·rw [List.mem_singleton.1 hx]; exact hp _
  ·exact h
theorem zDg {l:List Tok}:∀ (k:Nat) (cs:List Ct) (s:RdS),(qA l k cs s).1.length≤cs.length+k
 | 0,cs,s=>Nat.le_refl _
 | k+1,cs,s=>by
  simp only [qA]
  split
  ·have:=zDg (l:=l) k (cs++[(vW l (rgot l kBar s).2).1]) (vW l (rgot l kBar s).2).2
   simp only [List.length_append,List.length_cons,List.length_nil] at this; omega
  ·simp only; omega
theorem zH6 {l:List Tok} (hl:l.length≤16384) (s:RdS):(uL l s).1.small:=by
 have z:(default:It).small:=⟨by decide,by decide,by simp [default,instInhabitedIt],⟨by decide,trivial⟩,by decide,⟨by decide,trivial⟩,Gl.small_none 0⟩
 have rl:∀ {α:Type} (p:RdS→α×RdS) (s:RdS),(yC p l 10 [] s).1.length≤32768:=fun p s=>by
  have:=kF (p:=p) (l:=l) 10 [] s
  simp only [List.length_nil] at this; omega
 unfold uL
 repeat' split
 ·simp only [zBj]
  refine ⟨rl _ _, ?_, ?_,z.types,z.ways,z.args,z.body⟩
  ·exact Nat.le_trans (zDg _ _ _) (by simp only [List.length_cons,List.length_nil]; omega)
  ·exact zHc (fun s=>zEy s) _ _ _ (by simp only [List.mem_singleton]; rintro c rfl; exact zEy _)
 ·simp only [zBi]
  exact ⟨z.vars,z.nct,z.ctors,⟨rl _ _,Ty.smalls_of (zAH (fun s=>zBX 66 1 s) 10 [] _ (by simp))⟩,z.ways,z.args,z.body⟩
 ·simp only [zBh]
  exact ⟨z.vars,z.nct,z.ctors,z.types,rl _ _,z.args,z.body⟩
 ·simp only [qB]
  have ha:=Tm.smalls_of (zAH (l:=l) (fun s=>jX (l:=l) 66 1 s) 10 [] (zS l 1 s).2 (by simp))
  split
  ·exact ⟨z.vars,z.nct,z.ctors,z.types,z.ways,⟨rl _ _,ha⟩,zDj hl (fun s=>zEJ hl 66 1 s) _⟩
  ·exact ⟨z.vars,z.nct,z.ctors,z.types,z.ways,⟨rl _ _,ha⟩,Gl.small_none 1⟩
theorem zFA {P:It→Prop} {l:List Tok} (hp:∀ s,P (uL l s).1):∀ (k:Nat) (is:List It) (s:RdS),(∀ x ∈ is,P x)→∀ x ∈ (wW l k is s).1,P x
 | 0,is,s,h=>h
 | k+1,is,s,h=>by
  simp only [wW]
  repeat' split
  ·exact h
  ·exact h
  ·refine zFA hp k _ _ fun x hx=>?_
   rcases List.mem_append.1 hx with hx | hx
   ·exact h x hx
   ·rw [List.mem_singleton.1 hx]; exact hp _
theorem zAR {l:List Tok}:∀ (k:Nat) (is:List It) (s:RdS),is.length≤512→(wW l k is s).1.length≤512
 | 0,is,s,h=>h
 | k+1,is,s,h=>by
  simp only [wW]
  repeat' split
  ·exact h
  ·exact h
  ·exact zAR k _ _ (by simp only [List.length_append,List.length_cons,List.length_nil]; omega)
def zQW (s:ByteArray):List It×Int:=qD (rlex s).1 (rlex s).2
structure Srcs (l:List It):Prop where
 len:l.length≤1048576
 small:∀ it ∈ l,it.small
theorem zJ3 (s:ByteArray):Srcs (zQW s).1:=by
 unfold zQW qD
 simp only
 split
 ·exact ⟨by simp,by simp⟩
 ·exact ⟨Nat.le_trans (zAR _ _ _ (by simp)) (by omega),zFA (fun s=>zH6 (zGh _) s) _ _ _ (by simp)⟩
mutual
def Tm.nodes:Tm→Nat
 | .mk _ _ _ xs=>1+Tm.nodess xs
def Tm.nodess:List Tm→Nat
 | []=>0
 | t::ts=>t.nodes+Tm.nodess ts
end
theorem Tm.nodes_pos (t:Tm):1≤t.nodes:=by cases t; simp only [Tm.nodes]; omega
mutual
def Gl.nodes:Gl→Nat
 | .mk _ a b _ xs gs=>1+a.nodes+b.nodes+Tm.nodess xs+Gl.nodess gs
def Gl.nodess:List Gl→Nat
 | []=>0
 | g::gs=>g.nodes+Gl.nodess gs
end
theorem Gl.nodes_pos (g:Gl):1≤g.nodes:=by cases g; simp only [Gl.nodes]; omega
mutual
def Ty.nodes:Ty→Nat
 | .mk _ _ xs=>1+Ty.nodess xs
def Ty.nodess:List Ty→Nat
 | []=>0
 | t::ts=>t.nodes+Ty.nodess ts
end
theorem Ty.nodess_mem {t:Ty}:∀ {ts:List Ty},t ∈ ts→t.nodes≤Ty.nodess ts
 | _::_,.head _=>by simp only [Ty.nodess]; omega
 | _::_,.tail _ h=>by have:=Ty.nodess_mem h; simp only [Ty.nodess]; omega
theorem zBc {α:Type} {l:List α} {k:Nat} (h:k < l.length):∃ x,l[k]?=some x:=⟨l[k],by simp [h]⟩
theorem Tm.nodess_mem {t:Tm}:∀ {ts:List Tm},t ∈ ts→t.nodes≤Tm.nodess ts
 | _::_,.head _=>by simp only [Tm.nodess]; omega
 | _::_,.tail _ h=>by have:=Tm.nodess_mem h; simp only [Tm.nodess]; omega
theorem Gl.nodess_mem {t:Gl}:∀ {ts:List Gl},t ∈ ts→t.nodes≤Gl.nodess ts
 | _::_,.head _=>by simp only [Gl.nodess]; omega
 | _::_,.tail _ h=>by have:=Gl.nodess_mem h; simp only [Gl.nodess]; omega
theorem It.opn (it:It):∃ x1 x2 x3 x4 x5 x6 x7 x8 x9 x10 x11 x12,it.body.cs=[x1,x2,x3,x4,x5,x6,x7,x8,x9,x10,x11,x12]∧it.d=.agg [.int .i64 it.kind,.str it.name,.slice (it.vars.map .str),.slice (it.ctors.map Ct.d),.slice (it.types.map Ty.d),.slice (it.ways.map .bool),.int .i64 it.det,.slice (it.args.map Tm.d),x1,x2,x3,x4,x5,x6,x7,x8,x9,x10,x11,x12]:=by
 obtain ⟨x1,x2,x3,x4,x5,x6,x7,x8,x9,x10,x11,x12,h⟩:=it.body.opn
 exact ⟨_,_,_,_,_,_,_,_,_,_,_,_,h,by simp [It.d,It.cs,h]⟩
end Go.Aug
