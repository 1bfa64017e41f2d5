/- The contracts of the printers; conditions stand in each contract. -/
import Derived.Test.YthldjffimcngaaaGreatDoorReaderOne
import Derived.Test.YthldjffimcngaaaGreatDoorReaderTwo
import Derived.Test.YthldjffimcngaaaGreatDoorReaderFour
import Derived.Sort.Grow
import Derived.Test.YthldjffimcngaaaGreatDoorAugFour
set_option linter.all false
set_option linter.unusedVariables false
set_option linter.unusedSimpArgs false
set_option linter.unusedSectionVars false

/- strings.Join and strconv.Itoa, by the library's contracts. -/
namespace Go.Aug.Prn
open Go.Proofs Go.RowKit
set_option maxRecDepth 100000
variable {eb:EbG} {H:Heap} {K:A→Heap→Prop}
theorem zPZ [hm:TabM eb] (n:Int) (h0:-9223372036854775808≤n) (h1:n≤9223372036854775807) (hK:K (.d (.str ⟨(Lib.itoa n).toArray⟩)) H):ACall Tryz.prog (zK eb) 60 [.d (.int .i64 n)] H K:=zIM H n h0 h1 K hK
theorem zKF (ws:List ByteArray):flat (ws.map .str)=ws.map .str:=by
 induction ws with
 | nil=>rfl
 | cons x l ih=>simp only [flat,List.map_cons,List.flatMap_cons] at ih ⊢; rw [ih]; rfl
theorem zCM (ws:List ByteArray) (sep:ByteArray) (h1:ws.length≤140737488355328) (h2:(Lib.join (ws.map (·.data.toList)) sep.data.toList).length≤140737488355328)
  (hK:K (.d (.str ⟨(Lib.join (ws.map (·.data.toList)) sep.data.toList).toArray⟩)) H):ACall Tryz.prog (zK eb) 92 [.d (.slice (ws.map .str)),.d (.str sep)] H K:=by
 intro Z w cv hl hr m
 match cv,hl with
 | [v,u],_ =>
  have r:=(hr 0 (by simp) (by simp)).deep
  have r2:=(hr 1 (by simp) (by simp)).deep
  simp only [List.getElem_cons_zero,List.getElem_cons_succ] at r r2
  cases r2
  generalize he:ws.map D.str=es at r
  cases r with
  | empty a cap =>
   have:ws=[]:=by simpa using he
   subst this
   refine (Tryz.strings_Join_none a cap sep w).mono ?_
   rintro e w' ⟨rfl,rfl⟩
   exact ⟨_,_,Z,H,rfl,.d _ _ (.str _),m,.refl ..,hK⟩
  | slice b o cap _ sz cvs hk hz hb hs hc hone hrr =>
   subst he
   have hlen:(ws.map D.str).length=ws.length:=by simp
   have hfl:=zKF ws
   have hcells:∀ (j:Nat) x,ws[j]?=some x→w.cell? ⟨b,o+j,none⟩=some (.string x):=by
    intro j x hx
    obtain ⟨hj,rfl⟩:=List.getElem?_eq_some_iff.1 hx
    have hj':j < (flat (ws.map D.str)).length:=by rw [hfl]; simpa using hj
    have h3:=hrr j hj'
    have h4:(flat (ws.map D.str))[j]=.str ws[j]:=by simp [hfl]
    rw [h4] at h3
    rw [hc j hj']
    generalize cvs j=y at h3
    cases h3; rfl
   have key:=Tryz.strings_Join b o cap ws sep w hcells hb h1 (by rw [←hlen]; exact hk) h2
   rw [hlen]
   refine key.mono ?_
   rintro e w' ⟨rfl,hbl⟩
   obtain ⟨m',x'⟩:=m.below hbl
   exact ⟨_,_,Z,H,rfl,.d _ _ (.str _),m',x',hK⟩
end Go.Aug.Prn

/- The reference's decimals are strconv's. -/
namespace Go.Aug.Prn
open Go.Proofs
set_option maxRecDepth 100000
set_option linter.unusedSimpArgs false
attribute [local irreducible] hid andK letA zR wN xX yH xR xE wR idxA ldV ldD addO xD appTo wF slA srcK nilQ retW gif sgd yT svc sops xQ yX aopO xT yU aBin aUn wK aLen zL yW zI yG xC yF yZ zJ zM yV zX yE xG xU frzM putE newK newV wP ACall xH wD zW sret cnd szs nilC yK zQ yA
variable {eb:EbG}
theorem qU {n:Int} (h0:-9223372036854775808≤n) (h1:n≤9223372036854775807):IntKind.i64.wrap n=n:=by
 rw [IntKind.wrap_i64]; omega
theorem zIl (m:Int):(m.tdiv 10).natAbs=m.natAbs / 10:=by
 rw [Int.natAbs_tdiv]; rfl
theorem zIm (m:Int):(m.tmod 10).natAbs=m.natAbs % 10:=by
 rw [Int.natAbs_tmod]; rfl
theorem zPK {u:Nat} (h:¬ u < 10):Lib.decDigits u=Lib.decDigits (u / 10)++[UInt8.ofNat (48+u % 10)]:=by
 rw [Lib.decDigits,dif_neg h]
theorem zKC {u:Nat} (h:u < 10):Lib.decDigits u=[UInt8.ofNat (48+u)]:=by
 rw [Lib.decDigits,dif_pos h]
theorem zY (a b:List UInt8):(⟨a.toArray⟩:ByteArray)++⟨b.toArray⟩=⟨(a++b).toArray⟩:=by
 apply ByteArray.ext
 rw [ByteArray.data_append]
 simp
theorem zLI (a:List UInt8):ByteArray.size ⟨a.toArray⟩=a.length:=by simp [ByteArray.size]
theorem zHJ {n:Nat} (h:n < 256):byteD (UInt8.ofNat n)=.int .u8 (n:Int):=by
 simp [byteD,Nat.mod_eq_of_lt h]
theorem zKO {H G:Heap} (h:LeH H G) {b:Nat} (hb:G b=none):H b=none:=by
 cases e:H b with
 | none=>rfl
 | some o=>have:=h b o e; rw [hb] at this; cases this
theorem zJB (H:Heap) (n:Int) (h0:-9223372036854775808≤n) (h1:n≤9223372036854775807) (K:A→Heap→Prop) (hK:K (.d (.str ⟨(Lib.itoa n).toArray⟩)) H):ACall Tryz.prog (zK eb) 127 [.d (.int .i64 n)] H K:=by
 refine ACall.by mixed zXy (by simp) ?_
 conv in s127=>cbv
 refine zG ?_
 simp -dsimp only [go_sem,gS]
 refine yP (X:=Int×List UInt8×Nat) (fun x=>[(0,.d (.int .i64 n)),(3,.d (.str ⟨x.2.1.toArray⟩)),(4,.d (.int .i64 x.1))])
  (fun x G=>LeH H G∧x.1.natAbs < 10 ^ x.2.2∧1≤x.2.2∧x.2.2+x.2.1.length≤20∧x.1.natAbs≤9223372036854775808∧Lib.decDigits n.natAbs=Lib.decDigits x.1.natAbs++x.2.1) (fun x=>x.2.2) (n,[],19) H
  ⟨.refl H,by simp only; omega,by simp,by simp,by simp only; omega,by simp⟩ (by simp -dsimp only [go_sem,gS]) (.refl H) ?_
 rintro ⟨m,s,f⟩ G ⟨hG,hm,hf,hs,hmm,hd⟩
 simp only at hG hm hf hs hmm hd
 have hdm:m.natAbs % 10 < 10:=Nat.mod_lt _ (by decide)
 have ht:=zIm m
 have hq:=zIl m
 have hw1:m.tmod 10 < 0→IntKind.i64.wrap (0 - m.tmod 10)=((m.natAbs % 10:Nat):Int):=fun h=>by rw [qU (by omega) (by omega)]; omega
 have hw2:¬ m.tmod 10 < 0→m.tmod 10=((m.natAbs % 10:Nat):Int):=fun h=>by omega
 have hw3:IntKind.i64.wrap (48+((m.natAbs % 10:Nat):Int))=((48+m.natAbs % 10:Nat):Int):=by rw [qU (by omega) (by omega)]; omega
 have hw4:IntKind.u8.wrap ((48+m.natAbs % 10:Nat):Int)=((48+m.natAbs % 10:Nat):Int):=by rw [IntKind.wrap_u8]; omega
 have hw5:IntKind.i64.wrap (m.tdiv 10)=m.tdiv 10:=qU (by omega) (by omega)
 have hby:[D.int .u8 ((48+m.natAbs % 10:Nat):Int)]=[UInt8.ofNat (48+m.natAbs % 10)].map byteD:=by rw [List.map_cons,List.map_nil,zHJ (by omega)]
 have hsz:ByteArray.size ⟨[UInt8.ofNat (48+m.natAbs % 10)].toArray⟩+ByteArray.size ⟨s.toArray⟩≤9223372036854775807:=by rw [zLI,zLI]; simp only [List.length_cons,List.length_nil]; omega
 -- behind the digit
 have fin:∀ (c:UInt8),c=UInt8.ofNat (48+m.natAbs % 10)→(m.tdiv 10=0→Lib.decDigits n.natAbs=c::s)∧(m.tdiv 10≠0→2≤f∧(m.tdiv 10).natAbs < 10 ^ (f - 1)∧Lib.decDigits n.natAbs=Lib.decDigits (m.tdiv 10).natAbs++c::s):=by
  rintro c rfl
  refine ⟨fun h=>?_,fun h=>?_⟩
  ·have h10:m.natAbs < 10:=by omega
   rw [hd,zKC h10,Nat.mod_eq_of_lt h10]; rfl
  ·have h10:¬ m.natAbs < 10:=by omega
   have hf2:2≤f:=by
    rcases Nat.lt_or_ge f 2 with h' | h'
    ·have:f=1:=by omega
     subst this
     simp at hm; omega
    ·exact h'
   refine ⟨hf2, ?_, ?_⟩
   ·rw [hq]
    have:10 ^ f=10 ^ (f - 1) * 10:=by rw [←Nat.pow_succ]; congr 1; omega
    omega
   ·rw [hd,zPK h10,hq]; simp
 simp -dsimp only [go_sem,gS]
 refine zA (by omega) ?_
 simp -dsimp only [go_sem,gS]
 refine (fun (rest:∀ G2,LeH H G2→(?T:Heap→Prop) G2)=>?main) ?rest
 case main =>
  generalize hG9:G=G9
  refine zD (fun h=>?_) (fun h=>?_)
  ·have h':m.tmod 10 < 0:=of_decide_eq_true h
   have e:=hw1 h'
   simp -dsimp only [go_sem,gS,e,hw3,hw4]
   exact rest G9 (hG9 ▸ hG)
  ·have h':¬ m.tmod 10 < 0:=of_decide_eq_false h
   have e:=hw2 h'
   simp -dsimp only [go_sem,gS,e,hw3,hw4]
   exact rest G9 (hG9 ▸ hG)
 case rest =>
  intro G2 hG2
  refine yL (fun b hb hn hm'=>?_)
  have hHb:H b=none:=zKO hG2 hb
  simp -dsimp only [go_sem,gS,hw3,hw4]
  refine ⟨_,hby, ?_⟩
  refine zA (by simp only [List.size_toArray,List.length_cons,List.length_nil]; omega) ?_
  simp -dsimp only [go_sem,gS,zY,hw5]
  refine zA (by omega) ?_
  simp -dsimp only [go_sem,gS,hw5]
  obtain ⟨fa,fb⟩:=fin _ rfl
  refine zD (fun h=>?_) (fun h=>?_)
  ·have h':=fa (of_decide_eq_true h)
   simp -dsimp only [go_sem,gS,h]
   refine zD (fun h2=>?_) (fun h2=>?_)
   ·have h3:n < 0:=of_decide_eq_true h2
    simp -dsimp only [go_sem,gS,h2]
    refine zA (by simp only [List.size_toArray,List.length_cons,List.length_nil]; omega) ?_
    simp -dsimp only [go_sem,gS,zY]
    refine zB (G:=H) (zO hHb hG2) (zC ?_)
    have:Lib.itoa n=45::Lib.decDigits n.natAbs:=by unfold Lib.itoa; rw [if_pos h3]
    rw [this,h'] at hK
    exact hK
   ·have h3:¬ n < 0:=of_decide_eq_false h2
    simp -dsimp only [go_sem,gS,h2]
    refine zB (G:=H) (zO hHb hG2) (zC ?_)
    have:Lib.itoa n=Lib.decDigits n.natAbs:=by unfold Lib.itoa; rw [if_neg h3,show n.toNat=n.natAbs by omega]
    rw [this,h'] at hK
    exact hK
  ·obtain ⟨h4,h5,h6⟩:=fb (of_decide_eq_false h)
   simp -dsimp only [go_sem,gS,h]
   exact zP (m.tdiv 10,UInt8.ofNat (48+m.natAbs % 10)::s,f - 1) _ ⟨zO hHb hG2,h5,by simp only; omega,by simp only [List.length_cons]; omega,by simp only; omega,h6⟩ (by simp only; omega) (by simp -dsimp only [go_sem,gS]) (.refl _)
end Go.Aug.Prn

/- Items, goals, terms and types as data, and their texts; no program. -/
namespace Go.Aug.Prn
open Go.Proofs
abbrev Str:=List UInt8
abbrev S (l:Str):D:=.str ⟨l.toArray⟩
def InR (n:Int):Prop:=-9223372036854775808≤n∧n≤9223372036854775807
inductive Tm where
 | mk (kind:Int) (name:Str) (int:Int) (args:List Tm)
inductive Ty where
 | mk (var:Bool) (name:Str) (args:List Ty)
inductive Gl where
 | mk (kind:Int) (a b:Tm) (name:Str) (args:List Tm) (goals:List Gl)
mutual
def Tm.cs:Tm→List D
 | .mk k n i args=>[.int .i64 k,S n,.int .i64 i,.slice (Tm.ds args)]
def Tm.ds:List Tm→List D
 | []=>[]
 | t::l=>.agg t.cs::Tm.ds l
end
def Tm.d (t:Tm):D:=.agg t.cs
mutual
def Ty.cs:Ty→List D
 | .mk v n args=>[.bool v,S n,.slice (Ty.ds args)]
def Ty.ds:List Ty→List D
 | []=>[]
 | t::l=>.agg t.cs::Ty.ds l
end
def Ty.d (t:Ty):D:=.agg t.cs
mutual
def Gl.cs:Gl→List D
 | .mk k a b n args gs=>.int .i64 k::(a.cs++(b.cs++[S n,.slice (Tm.ds args),.slice (Gl.ds gs)]))
def Gl.ds:List Gl→List D
 | []=>[]
 | t::l=>.agg t.cs::Gl.ds l
end
def Gl.d (t:Gl):D:=.agg t.cs
theorem Tm.ds_map:∀ l:List Tm,Tm.ds l=l.map Tm.d
 | []=>rfl
 | t::l=>by rw [Tm.ds,Tm.ds_map l]; rfl
theorem Ty.ds_map:∀ l:List Ty,Ty.ds l=l.map Ty.d
 | []=>rfl
 | t::l=>by rw [Ty.ds,Ty.ds_map l]; rfl
theorem Gl.ds_map:∀ l:List Gl,Gl.ds l=l.map Gl.d
 | []=>rfl
 | t::l=>by rw [Gl.ds,Gl.ds_map l]; rfl
structure Ct where
 name:Str
 args:List Ty
def Ct.cs (c:Ct):List D:=[S c.name,.slice (Ty.ds c.args)]
def Ct.d (c:Ct):D:=.agg c.cs
structure It where
 kind:Int
 name:Str
 vars:List Str
 ctors:List Ct
 types:List Ty
 ins:List Bool
 det:Int
 args:List Tm
 body:Gl
def It.cs (i:It):List D:=.int .i64 i.kind::S i.name::.slice (i.vars.map S)::.slice (i.ctors.map Ct.d)::.slice (Ty.ds i.types)::.slice (i.ins.map .bool)::.int .i64 i.det::.slice (Tm.ds i.args)::i.body.cs
def It.d (i:It):D:=.agg i.cs
def rowT (ws:List Str):Str:=match ws with
 | []=>[]
 | w::l=>40::(Lib.join (w::l) [44,32]++[41])
mutual
def Tm.t:Tm→Str
 | .mk k n i args=>(if k=2 then Lib.itoa i else n)++rowT (Tm.ts args)
def Tm.ts:List Tm→List Str
 | []=>[]
 | t::l=>t.t::Tm.ts l
end
mutual
def Ty.t:Ty→Str
 | .mk _ n args=>n++rowT (Ty.ts args)
def Ty.ts:List Ty→List Str
 | []=>[]
 | t::l=>t.t::Ty.ts l
end
def Gl.kind:Gl→Int
 | .mk k .. => k
def loose (kind k:Int):Bool:=k == 6 || k == 5 && kind != 6
def brT (b:Bool) (s:Str):Str:=if b then 40::(s++[41]) else s
mutual
def Gl.t:Gl→Str
 | .mk k a b n args gs =>
  if k=1 then [116,114,117,101] else if k=2 then [102,97,105,108] else if k=3 then a.t++[32,61,32]++b.t else if k=4 then n++rowT (Tm.ts args)
  else if k=5 then Lib.join (Gl.ws k gs) [44,32] else if k=6 then Lib.join (Gl.ws k gs) [32,59,32]
  else if k=7 then [110,111,116,32]++(Gl.ws k gs).getD 0 [] else if k=8 then [116,104,114,111,119,32]++a.t
  else if k=9 then [116,114,121,32]++(Gl.ws k gs).getD 0 []++[32,99,97,116,99,104,32]++n++[32,116,104,101,110,32]++(Gl.ws k gs).getD 1 [] else []
def Gl.ws:Int→List Gl→List Str
 | _,[]=>[]
 | k,g::gs=>brT (loose k g.kind) g.t::Gl.ws k gs
end
theorem Tm.ts_map:∀ l:List Tm,Tm.ts l=l.map Tm.t
 | []=>rfl
 | t::l=>by rw [Tm.ts,Tm.ts_map l]; rfl
theorem Ty.ts_map:∀ l:List Ty,Ty.ts l=l.map Ty.t
 | []=>rfl
 | t::l=>by rw [Ty.ts,Ty.ts_map l]; rfl
def Gl.w (k:Int) (g:Gl):Str:=brT (loose k g.kind) g.t
theorem Gl.ws_map (k:Int):∀ l:List Gl,Gl.ws k l=l.map (Gl.w k)
 | []=>rfl
 | t::l=>by rw [Gl.ws,Gl.ws_map k l]; rfl
def detT (n:Int):Str:=if n=1 then [100,101,116] else if n=2 then [115,101,109,105,100,101,116] else if n=3 then [109,117,108,116,105] else if n=4 then [110,111,110,100,101,116] else []
def wayT (b:Bool):Str:=if b then [105,110] else [111,117,116]
def Ct.t (c:Ct):Str:=c.name++rowT (Ty.ts c.args)
def ctorsT (l:List Ct):Str:=Lib.join (l.map Ct.t) [32,124,32]
def It.t0 (i:It):Str :=
 if i.kind=1 then [116,121,112,101,32]++i.name++rowT i.vars++[32,61,32]++ctorsT i.ctors
 else if i.kind=2 then [112,114,101,100,32]++i.name++rowT (Ty.ts i.types)
 else if i.kind=3 then [109,111,100,101,32]++i.name++rowT (i.ins.map wayT)++[32,105,115,32]++detT i.det
 else if i.kind=4 then i.name++rowT (Tm.ts i.args)++(if i.body.kind=1 then [] else [32,58,45,32]++i.body.t)
 else []
def It.t (i:It):Str:=i.t0++[46,10]
mutual
def Tm.ok:Tm→Prop
 | .mk k _ i args=>InR k∧InR i∧Tm.oks args
def Tm.oks:List Tm→Prop
 | []=>True
 | t::l=>t.ok∧Tm.oks l
end
mutual
def Gl.ok:Gl→Prop
 | .mk k a b _ args gs=>InR k∧a.ok∧b.ok∧Tm.oks args∧Gl.oks gs
def Gl.oks:List Gl→Prop
 | []=>True
 | t::l=>t.ok∧Gl.oks l
end
theorem Tm.oks_mem:∀ {l:List Tm},Tm.oks l→∀ t ∈ l,t.ok
 | t::l,h,x,hx=>by
  rcases List.mem_cons.1 hx with rfl | hx
  ·exact h.1
  ·exact Tm.oks_mem h.2 x hx
theorem Gl.oks_mem:∀ {l:List Gl},Gl.oks l→∀ t ∈ l,t.ok
 | t::l,h,x,hx=>by
  rcases List.mem_cons.1 hx with rfl | hx
  ·exact h.1
  ·exact Gl.oks_mem h.2 x hx
def tot (ws:List Str):Nat:=(ws.map fun w=>w.length+4).sum
theorem uT (ws:List Str) (sep:Str) (hs:sep.length≤4):(Lib.join ws sep).length≤tot ws:=by
 cases ws with
 | nil=>simp [Lib.join_nil,tot]
 | cons x r =>
  have:=Lib.join_length x r sep
  rw [this]
  have h2:∀ r:List Str,sep.length * r.length+Lib.lens r≤tot r:=by
   intro r
   induction r with
   | nil=>simp [Lib.lens,tot]
   | cons y r ih =>
    simp only [tot,List.map_cons,List.sum_cons,Lib.lens,List.length_cons,Nat.mul_add] at ih ⊢
    omega
  have:=h2 r
  simp only [tot,List.map_cons,List.sum_cons,Lib.lens] at this ⊢
  omega
theorem wO (ws:List Str):(rowT ws).length≤tot ws+2:=by
 cases ws with
 | nil=>simp [rowT]
 | cons w l =>
  have:=uT (w::l) [44,32] (by decide)
  simp only [rowT,List.length_cons,List.length_append,List.length_nil]
  omega
theorem zLO {ws:List Str} {w:Str} (h:w ∈ ws):w.length+4≤tot ws:=by
 induction ws with
 | nil=>cases h
 | cons x l ih =>
  simp only [tot,List.map_cons,List.sum_cons] at ih ⊢
  rcases List.mem_cons.1 h with rfl | h
  ·omega
  ·have:=ih h; omega
theorem vY (a:Str):ByteArray.size ⟨a.toArray⟩=a.length:=by simp [ByteArray.size]
theorem zQb:∀ (k u:Nat),u < 10 ^ (k+1)→Lib.nDigits u≤k+1
 | 0,u,h=>by rw [Lib.nDigits_small (by simpa using h)]; exact Nat.le_refl _
 | k+1,u,h=>by
  by_cases hu:u < 10
  ·rw [Lib.nDigits_small hu]; omega
  ·rw [Lib.nDigits_big hu]
   have:=zQb k (u / 10) (by rw [Nat.pow_succ] at h; omega)
   omega
theorem zF2 {n:Int} (h:InR n):(Lib.itoa n).length≤20:=by
 unfold InR at h
 unfold Lib.itoa
 split
 ·simp only [List.length_cons,Lib.decDigits_length]
  have:=zQb 18 n.natAbs (by omega)
  omega
 ·rw [Lib.decDigits_length]
  have:=zQb 18 n.toNat (by omega)
  omega
theorem kK {α:Type} {l:List α} {k:Nat} {x:α} (h:l[k]?=some x):l.take (k+1)=l.take k++[x]:=by
 rw [List.take_add_one,h]; rfl
mutual
theorem Tm.len:∀ t:Tm,t.ok→t.t.length+8≤24 * D.sizes t.cs
 | .mk k n i args,h=>by
  have ha:=Tm.lens args h.2.2
  have hr:=wO (Tm.ts args)
  have hi:=h.2.1
  have hn:(if k=2 then Lib.itoa i else n).length≤n.length+20:=by
   split
   ·have:=zF2 hi; omega
   ·omega
  simp only [Tm.t,Tm.cs,D.sizes,D.size,vY,List.length_append] at *
  omega
theorem Tm.lens:∀ l:List Tm,Tm.oks l→tot (Tm.ts l)≤24 * D.sizes (Tm.ds l)
 | [],_=>by simp [Tm.ts,tot]
 | t::l,h=>by
  have h1:=Tm.len t h.1
  have h2:=Tm.lens l h.2
  simp only [Tm.ts,tot,List.map_cons,List.sum_cons,Tm.ds,D.sizes,D.size] at h2 ⊢
  omega
end
mutual
theorem Ty.len:∀ t:Ty,t.t.length+8≤24 * D.sizes t.cs
 | .mk v n args=>by
  have ha:=Ty.lens args
  have hr:=wO (Ty.ts args)
  simp only [Ty.t,Ty.cs,D.sizes,D.size,vY,List.length_append] at *
  omega
theorem Ty.lens:∀ l:List Ty,tot (Ty.ts l)≤24 * D.sizes (Ty.ds l)
 | []=>by simp [Ty.ts,tot]
 | t::l=>by
  have h1:=Ty.len t
  have h2:=Ty.lens l
  simp only [Ty.ts,tot,List.map_cons,List.sum_cons,Ty.ds,D.sizes,D.size] at h2 ⊢
  omega
end
theorem zM0 (ws:List Str) (i:Nat):(ws.getD i []).length≤tot ws:=by
 by_cases h:i < ws.length
 ·have:ws.getD i []=ws[i]:=by simp [List.getD,h]
  rw [this]
  have:=zLO (List.getElem_mem h)
  omega
 ·simp [List.getD,h]
theorem zD8 (ws:List Str):(ws.getD 0 []).length+(ws.getD 1 []).length≤tot ws:=by
 match ws with
 | []=>simp [tot]
 | [x]=>simp [tot]
 | x::y::l=>simp [tot]; omega
theorem zPC (b:Bool) (s:Str):(brT b s).length≤s.length+2:=by
 unfold brT; split <;> simp
mutual
theorem Gl.len:∀ g:Gl,g.ok→g.t.length+8≤60 * D.sizes g.cs
 | .mk k a b n args gs,h=>by
  have ha:=a.len h.2.1
  have hb:=b.len h.2.2.1
  have hr:=wO (Tm.ts args)
  have hl:=Tm.lens args h.2.2.2.1
  have hg:=Gl.lens gs h.2.2.2.2 k
  have g0:=zM0 (Gl.ws k gs) 0
  have g1:=zD8 (Gl.ws k gs)
  have j1:=uT (Gl.ws k gs) [44,32] (by decide)
  have j2:=uT (Gl.ws k gs) [32,59,32] (by decide)
  have e:D.sizes (Gl.cs (.mk k a b n args gs))=1+(D.sizes a.cs+(D.sizes b.cs+(n.length+1+(D.sizes (Tm.ds args)+1+(D.sizes (Gl.ds gs)+1))))):=by
   simp only [Gl.cs,D.sizes,D.sizes_append,D.size,vY]
  rw [e]
  unfold Gl.t
  repeat' split
  all_goals first
   | ((try simp only [List.length_append,List.length_cons,List.length_nil]); omega)
   | (subst_vars; (try simp only [List.length_append,List.length_cons,List.length_nil]); omega)
theorem Gl.lens:∀ l:List Gl,Gl.oks l→∀ k,tot (Gl.ws k l)≤60 * D.sizes (Gl.ds l)
 | [],_,k=>by simp [Gl.ws,tot]
 | t::l,h,k=>by
  have h1:=Gl.len t h.1
  have h2:=Gl.lens l h.2 k
  have h3:=zPC (loose k t.kind) t.t
  simp only [Gl.ws,tot,List.map_cons,List.sum_cons,Gl.ds,D.sizes,D.size] at h2 ⊢
  omega
end
theorem Ct.lens:∀ l:List Ct,tot (l.map Ct.t)≤24 * D.sizes (l.map Ct.d)
 | []=>by simp [tot]
 | c::l=>by
  have h:=Ct.lens l
  have h1:=Ty.lens c.args
  have h2:=wO (Ty.ts c.args)
  simp only [tot,List.map_cons,List.sum_cons,D.sizes,Ct.d,Ct.cs,Ct.t,D.size,vY,List.length_append] at h ⊢
  omega
theorem zDK:∀ l:List Str,tot l≤24 * D.sizes (l.map S)
 | []=>by simp [tot]
 | c::l=>by
  have h:=zDK l
  simp only [tot,List.map_cons,List.sum_cons,D.sizes,D.size,vY] at h ⊢
  omega
theorem zDN:∀ l:List Bool,tot (l.map wayT)≤24 * D.sizes (l.map D.bool)
 | []=>by simp [tot]
 | c::l=>by
  have h:=zDN l
  have:(wayT c).length≤3:=by cases c <;> decide
  simp only [tot,List.map_cons,List.sum_cons,D.sizes,D.size] at h ⊢
  omega
theorem zFU (n:Int):(detT n).length≤8:=by
 unfold detT
 repeat' split
 all_goals decide
def It.ok (i:It):Prop:=Tm.oks i.args∧i.body.ok
theorem It.len (i:It) (h:i.ok):i.t.length≤60 * D.sizes i.cs+60:=by
 have hvt:=zDK i.vars
 have hvr:=wO i.vars
 have hit:=zDN i.ins
 have hir:=wO (i.ins.map wayT)
 have htt:=Ty.lens i.types
 have htr:=wO (Ty.ts i.types)
 have hat:=Tm.lens i.args h.1
 have har:=wO (Tm.ts i.args)
 have hct:=Ct.lens i.ctors
 have hcj:=uT (i.ctors.map Ct.t) [32,124,32] (by decide)
 have hdl:=zFU i.det
 have hgl:=Gl.len i.body h.2
 simp only [It.cs,D.sizes,D.size,vY,It.t,List.length_append]
 unfold It.t0 ctorsT
 split
 ·simp only [List.length_append,List.length_cons,List.length_nil]; omega
 ·split
  ·simp only [List.length_append,List.length_cons,List.length_nil]; omega
  ·split
   ·simp only [List.length_append,List.length_cons,List.length_nil]; omega
   ·split
    ·split
     ·simp only [List.length_append,List.length_cons,List.length_nil]; omega
     ·simp only [List.length_append,List.length_cons,List.length_nil]; omega
    ·simp only [List.length_nil,List.length_cons]; omega
end Go.Aug.Prn

/- print.args and the forms of terms and types. -/
namespace Go.Aug.Prn
open Go.Proofs
set_option maxRecDepth 100000
set_option linter.unusedSimpArgs false
attribute [local irreducible] hid andK letA zR wN xX yH xR xE wR idxA ldV ldD addO xD appTo wF slA srcK nilQ retW gif sgd yT svc sops xQ yX aopO xT yU aBin aUn wK aLen zL yW zI yG xC yF yZ zJ zM yV zX yE xG xU frzM putE newK newV wP ACall xH wD zW sret cnd szs nilC yK zQ yA
variable {eb:EbG}
def wsK {α:Type} (f:α→Str) (l:List α) (k:Nat):List D:=((l.take k).map fun t=>S (f t))++List.replicate (l.length - k) (S [])
theorem zC1 {α:Type} (f:α→Str) (l:List α) (k:Nat) (h:k≤l.length):(wsK f l k).length=l.length:=by
 simp [wsK]; omega
theorem zFM {α:Type} (f:α→Str) (l:List α) (k:Nat) (h:k < l.length):(wsK f l k)[k]?=some (S []):=by
 unfold wsK
 rw [List.getElem?_append_right (by simp; omega)]
 have e:k - ((l.take k).map fun t=>S (f t)).length=0:=by simp; omega
 rw [e,List.getElem?_replicate,if_pos (by omega)]
theorem zEH {ws:List Str} (h:ws≠[]):rowT ws=40::(Lib.join ws [44,32]++[41]):=by
 cases ws with
 | nil=>exact (h rfl).elim
 | cons=>rfl
theorem zCO {G G2:Heap} {b:Nat} {o0 o:AObj} (h:LeH (upd G b o0) G2):LeH (upd G b o) (upd G2 b o):=by
 intro k x hk
 by_cases e:k=b
 ·subst e; rw [zV] at hk ⊢; exact hk
 ·rw [xI _ _ e] at hk ⊢
  exact h k x (by rw [xI _ _ e]; exact hk)
theorem zC2 {α:Type} (f:α→Str) (l:List α) (k:Nat) (x:α) (h:l[k]?=some x):(wsK f l k).set k (S (f x))=wsK f l (k+1):=by
 obtain ⟨hk,rfl⟩:=List.getElem?_eq_some_iff.1 h
 unfold wsK
 rw [kK h,List.map_append]
 have e:l.length - k=(l.length - (k+1))+1:=by omega
 rw [e,List.replicate_succ,List.set_append_right _ _ (by simp; omega)]
 simp [Nat.min_eq_left (Nat.le_of_lt hk)]
theorem zBA {α:Type} (f:α→Str) (l:List α):wsK f l l.length=(l.map f).map S:=by
 simp [wsK]
theorem zBB {α:Type} (f:α→Str) (l:List α):wsK f l 0=List.replicate l.length (S []):=by
 simp [wsK]
theorem zB5 (H:Heap) (l:List Tm) (hl:l.length≤4194304) (ht:tot (l.map Tm.t)≤268435456)
  (ih:∀ t ∈ l,∀ (G:Heap) (K:A→Heap→Prop),K (.d (S t.t)) G→ACall Tryz.prog (zK eb) 22 [.d t.d] G K)
  (K:A→Heap→Prop) (hK:K (.d (S (rowT (l.map Tm.t)))) H):ACall Tryz.prog (zK eb) 49 [.d (.slice (l.map Tm.d)),.func 22 []] H K:=by
 refine ACall.by mixed fn49 (by simp) ?_
 conv in s49=>cbv
 refine zG ?_
 simp -dsimp only [go_sem,gS]
 refine zD (fun h=>?_) (fun h=>?_)
 ·have h0:l=[]:=by have:=of_decide_eq_true h; exact List.length_eq_zero_iff.1 (by omega)
  subst h0
  simp -dsimp only [go_sem,gS,h]
  exact zC hK
 ·have h0:l.length≠0:=by intro e; have:=of_decide_eq_false h; omega
  simp -dsimp only [go_sem,gS,h]
  refine zA (by omega) ?_
  simp -dsimp only [go_sem,gS]
  refine yO (fun b v hb hn hm hv=>?_)
  simp -dsimp only [go_sem,gS,hn,hm]
  refine yP (X:=Nat) (fun k=>[(1,.func 22 []),(5,.own b v),(14,.d (.slice (l.map Tm.d))),(15,.d (.int .i64 l.length)),(16,.d (.int .i64 k))])
   (fun k G=>k≤l.length∧LeH (upd H b (.arr 9 1 v (wsK Tm.t l k))) G) (fun k=>l.length - k) 0 _ ⟨by omega,.refl _⟩ (by simp -dsimp only [go_sem,gS]; simp) (by rw [zBB]; exact .refl _) ?_
  rintro k G ⟨hk,gle⟩
  have gb:G b=some (.arr 9 1 v (wsK Tm.t l k)):=gle b _ (zV ..)
  simp -dsimp only [go_sem,gS]
  refine zD (fun h2=>?_) (fun h2=>?_)
  ·have hkl:k < l.length:=by have:=of_decide_eq_true h2; omega
   obtain ⟨x,hx⟩:∃ x,l[k]?=some x:=⟨l[k],List.getElem?_eq_getElem hkl⟩
   have hw:IntKind.i64.wrap ((k:Int)+1)=((k+1:Nat):Int):=by rw [qU (by omega) (by omega)]; omega
   have hm:x ∈ l:=List.mem_of_getElem? hx
   obtain ⟨xk,xn,xi,xa⟩:=x
   simp -dsimp only [go_sem,gS,h2,hx]
   refine zA rfl ?_
   simp -dsimp only [go_sem,gS,Tm.d,Tm.cs,D.cells]
   refine yL (fun b7 hb7 hn7 hm7=>?_)
   simp -dsimp only [go_sem,gS]
   refine ih (.mk xk xn xi xa) hm _ _ ?_
   have h7:b≠b7:=by rintro rfl; rw [gb] at hb7; cases hb7
   have e7:eqn b b7=false:=hn7 b (by rw [gb]; rfl)
   simp -dsimp only [go_sem,gS,e7,gb,zC1 Tm.t l k hk]
   refine zA (by omega) ?_
   simp -dsimp only [go_sem,gS,e7,gb,zFM Tm.t l k hkl,D.cells,hw]
   refine zP (k+1) (upd H b (.arr 9 1 v (wsK Tm.t l (k+1)))) ⟨by omega,.refl _⟩ (by omega) (by simp -dsimp only [go_sem,gS]) ?_
   rw [←zC2 Tm.t l k _ hx]
   exact zCO (gle.trans (by repeat first | exact .refl _ | refine zO hb7 ?_))
  ·have hkl:k=l.length:=by have:=of_decide_eq_false h2; omega
   subst hkl
   simp -dsimp only [go_sem,gS,h2]
   rw [zBA] at gb
   have gl:LeH H G:=fun x o hx=>gle x o (zO hb (.refl H) x o hx)
   have hj:=uT (l.map Tm.t) [44,32] (by decide)
   refine ACall.frz [true,false] ?_
   simp -dsimp only [go_sem,gS,gb]
   rw [show (l.map Tm.t).map S=((l.map Tm.t).map fun s=>(⟨s.toArray⟩:ByteArray)).map .str by simp]
   have hmap:((l.map Tm.t).map fun s=>(⟨s.toArray⟩:ByteArray)).map (fun x=>x.data.toList)=l.map Tm.t:=by simp
   refine zCM _ _ (by simp only [List.length_map]; omega) (by rw [hmap]; show (Lib.join (l.map Tm.t) [44,32]).length≤_; omega) ?_
   rw [hmap]
   simp -dsimp only [go_sem,gS]
   refine zA (by simp only [List.size_toArray,List.length_cons,List.length_nil]; omega) ?_
   simp -dsimp only [go_sem,gS,zY]
   refine zA (by simp only [List.size_toArray,List.length_cons,List.length_nil,List.length_append]; omega) ?_
   simp -dsimp only [go_sem,gS,zY]
   refine zB (G:=H) (zO hb gl) (zC ?_)
   rw [zEH (by intro e; apply h0; simpa using congrArg List.length e)] at hK
   exact hK
end Go.Aug.Prn

/- print.args of types, strings and ways; the forms of terms and types. -/
namespace Go.Aug.Prn
open Go.Proofs
set_option maxRecDepth 100000
set_option linter.unusedSimpArgs false
attribute [local irreducible] hid andK letA zR wN xX yH xR xE wR idxA ldV ldD addO xD appTo wF slA srcK nilQ retW gif sgd yT svc sops xQ yX aopO xT yU aBin aUn wK aLen zL yW zI yG xC yF yZ zJ zM yV zX yE xG xU frzM putE newK newV wP ACall xH wD zW sret cnd szs nilC yK zQ yA
variable {eb:EbG}
theorem zT0:(zK eb).pan 43=false:=by kernel_rfl
theorem zT1:(zK eb).pan 47=false:=by kernel_rfl
theorem zFj:zH Tryz.prog 43=true:=by kernel_rfl
theorem zFk:zH Tryz.prog 47=true:=by kernel_rfl
theorem zD0 (H:Heap) (l:List Ty) (hl:l.length≤4194304) (ht:tot (l.map Ty.t)≤268435456)
  (ih:∀ t ∈ l,∀ (G:Heap) (K:A→Heap→Prop),K (.d (S t.t)) G→ACall Tryz.prog (zK eb) 25 [.d t.d] G K)
  (K:A→Heap→Prop) (hK:K (.d (S (rowT (l.map Ty.t)))) H):ACall Tryz.prog (zK eb) 45 [.d (.slice (l.map Ty.d)),.func 25 []] H K:=by
 refine ACall.by mixed fn45 (by simp) ?_
 conv in s45=>cbv
 refine zG ?_
 simp -dsimp only [go_sem,gS]
 refine zD (fun h=>?_) (fun h=>?_)
 ·have h0:l=[]:=by have:=of_decide_eq_true h; exact List.length_eq_zero_iff.1 (by omega)
  subst h0
  simp -dsimp only [go_sem,gS,h]
  exact zC hK
 ·have h0:l.length≠0:=by intro e; have:=of_decide_eq_false h; omega
  simp -dsimp only [go_sem,gS,h]
  refine zA (by omega) ?_
  simp -dsimp only [go_sem,gS]
  refine yO (fun b v hb hn hm hv=>?_)
  simp -dsimp only [go_sem,gS,hn,hm]
  refine yP (X:=Nat) (fun k=>[(1,.func 25 []),(5,.own b v),(14,.d (.slice (l.map Ty.d))),(15,.d (.int .i64 l.length)),(16,.d (.int .i64 k))])
   (fun k G=>k≤l.length∧LeH (upd H b (.arr 9 1 v (wsK Ty.t l k))) G) (fun k=>l.length - k) 0 _ ⟨by omega,.refl _⟩ (by simp -dsimp only [go_sem,gS]; simp) (by rw [zBB]; exact .refl _) ?_
  rintro k G ⟨hk,gle⟩
  have gb:G b=some (.arr 9 1 v (wsK Ty.t l k)):=gle b _ (zV ..)
  simp -dsimp only [go_sem,gS]
  refine zD (fun h2=>?_) (fun h2=>?_)
  ·have hkl:k < l.length:=by have:=of_decide_eq_true h2; omega
   obtain ⟨x,hx⟩:∃ x,l[k]?=some x:=⟨l[k],List.getElem?_eq_getElem hkl⟩
   have hw:IntKind.i64.wrap ((k:Int)+1)=((k+1:Nat):Int):=by rw [qU (by omega) (by omega)]; omega
   have hm:x ∈ l:=List.mem_of_getElem? hx
   obtain ⟨xv,xn,xa⟩:=x
   simp -dsimp only [go_sem,gS,h2,hx]
   refine zA rfl ?_
   simp -dsimp only [go_sem,gS,Ty.d,Ty.cs,D.cells]
   refine yL (fun b7 hb7 hn7 hm7=>?_)
   simp -dsimp only [go_sem,gS]
   refine ih (.mk xv xn xa) hm _ _ ?_
   have h7:b≠b7:=by rintro rfl; rw [gb] at hb7; cases hb7
   have e7:eqn b b7=false:=hn7 b (by rw [gb]; rfl)
   simp -dsimp only [go_sem,gS,e7,gb,zC1 Ty.t l k hk]
   refine zA (by omega) ?_
   simp -dsimp only [go_sem,gS,e7,gb,zFM Ty.t l k hkl,D.cells,hw]
   refine zP (k+1) (upd H b (.arr 9 1 v (wsK Ty.t l (k+1)))) ⟨by omega,.refl _⟩ (by omega) (by simp -dsimp only [go_sem,gS]) ?_
   rw [←zC2 Ty.t l k _ hx]
   exact zCO (gle.trans (by repeat first | exact .refl _ | refine zO hb7 ?_))
  ·have hkl:k=l.length:=by have:=of_decide_eq_false h2; omega
   subst hkl
   simp -dsimp only [go_sem,gS,h2]
   rw [zBA] at gb
   have gl:LeH H G:=fun x o hx=>gle x o (zO hb (.refl H) x o hx)
   have hj:=uT (l.map Ty.t) [44,32] (by decide)
   refine ACall.frz [true,false] ?_
   simp -dsimp only [go_sem,gS,gb]
   rw [show (l.map Ty.t).map S=((l.map Ty.t).map fun s=>(⟨s.toArray⟩:ByteArray)).map .str by simp]
   have hmap:((l.map Ty.t).map fun s=>(⟨s.toArray⟩:ByteArray)).map (fun x=>x.data.toList)=l.map Ty.t:=by simp
   refine zCM _ _ (by simp only [List.length_map]; omega) (by rw [hmap]; show (Lib.join (l.map Ty.t) [44,32]).length≤_; omega) ?_
   rw [hmap]
   simp -dsimp only [go_sem,gS]
   refine zA (by simp only [List.size_toArray,List.length_cons,List.length_nil]; omega) ?_
   simp -dsimp only [go_sem,gS,zY]
   refine zA (by simp only [List.size_toArray,List.length_cons,List.length_nil,List.length_append]; omega) ?_
   simp -dsimp only [go_sem,gS,zY]
   refine zB (G:=H) (zO hb gl) (zC ?_)
   rw [zEH (by intro e; apply h0; simpa using congrArg List.length e)] at hK
   exact hK
theorem zKr (H:Heap) (l:List Str) (hl:l.length≤4194304) (ht:tot (l.map id)≤268435456)
  (ih:∀ t ∈ l,∀ (G:Heap) (K:A→Heap→Prop),K (.d (S t)) G→ACall Tryz.prog (zK eb) 43 [.d (S t)] G K)
  (K:A→Heap→Prop) (hK:K (.d (S (rowT (l.map id)))) H):ACall Tryz.prog (zK eb) 42 [.d (.slice (l.map S)),.func 43 []] H K:=by
 refine ACall.by mixed fn42 (by simp) ?_
 conv in s42=>cbv
 refine zG ?_
 simp -dsimp only [go_sem,gS]
 refine zD (fun h=>?_) (fun h=>?_)
 ·have h0:l=[]:=by have:=of_decide_eq_true h; exact List.length_eq_zero_iff.1 (by omega)
  subst h0
  simp -dsimp only [go_sem,gS,h]
  exact zC hK
 ·have h0:l.length≠0:=by intro e; have:=of_decide_eq_false h; omega
  simp -dsimp only [go_sem,gS,h]
  refine zA (by omega) ?_
  simp -dsimp only [go_sem,gS]
  refine yO (fun b v hb hn hm hv=>?_)
  simp -dsimp only [go_sem,gS,hn,hm]
  refine yP (X:=Nat) (fun k=>[(1,.func 43 []),(5,.own b v),(14,.d (.slice (l.map S))),(15,.d (.int .i64 l.length)),(16,.d (.int .i64 k))])
   (fun k G=>k≤l.length∧LeH (upd H b (.arr 9 1 v (wsK id l k))) G) (fun k=>l.length - k) 0 _ ⟨by omega,.refl _⟩ (by simp -dsimp only [go_sem,gS]; simp) (by rw [zBB]; exact .refl _) ?_
  rintro k G ⟨hk,gle⟩
  have gb:G b=some (.arr 9 1 v (wsK id l k)):=gle b _ (zV ..)
  simp -dsimp only [go_sem,gS]
  refine zD (fun h2=>?_) (fun h2=>?_)
  ·have hkl:k < l.length:=by have:=of_decide_eq_true h2; omega
   obtain ⟨x,hx⟩:∃ x,l[k]?=some x:=⟨l[k],List.getElem?_eq_getElem hkl⟩
   have hw:IntKind.i64.wrap ((k:Int)+1)=((k+1:Nat):Int):=by rw [qU (by omega) (by omega)]; omega
   have hm:x ∈ l:=List.mem_of_getElem? hx
   simp -dsimp only [go_sem,gS,h2,hx,zFj,zFk,zT0,zT1]
   refine ih x hm _ _ ?_
   simp -dsimp only [go_sem,gS,gb,zC1 id l k hk]
   refine zA (by omega) ?_
   simp -dsimp only [go_sem,gS,gb,zFM id l k hkl,D.cells,hw]
   refine zP (k+1) (upd H b (.arr 9 1 v (wsK id l (k+1)))) ⟨by omega,.refl _⟩ (by omega) (by simp -dsimp only [go_sem,gS]) ?_
   rw [←zC2 id l k _ hx]
   exact zCO gle
  ·have hkl:k=l.length:=by have:=of_decide_eq_false h2; omega
   subst hkl
   simp -dsimp only [go_sem,gS,h2]
   rw [zBA] at gb
   have gl:LeH H G:=fun x o hx=>gle x o (zO hb (.refl H) x o hx)
   have hj:=uT (l.map id) [44,32] (by decide)
   refine ACall.frz [true,false] ?_
   simp -dsimp only [go_sem,gS,gb]
   rw [show (l.map id).map S=((l.map id).map fun s=>(⟨s.toArray⟩:ByteArray)).map .str by simp]
   have hmap:((l.map id).map fun s=>(⟨s.toArray⟩:ByteArray)).map (fun x=>x.data.toList)=l.map id:=by simp [Function.comp_def]
   refine zCM _ _ (by simp only [List.length_map]; omega) (by rw [hmap]; show (Lib.join (l.map id) [44,32]).length≤_; omega) ?_
   rw [hmap]
   simp -dsimp only [go_sem,gS]
   refine zA (by simp only [List.size_toArray,List.length_cons,List.length_nil]; omega) ?_
   simp -dsimp only [go_sem,gS,zY]
   refine zA (by simp only [List.size_toArray,List.length_cons,List.length_nil,List.length_append]; omega) ?_
   simp -dsimp only [go_sem,gS,zY]
   refine zB (G:=H) (zO hb gl) (zC ?_)
   rw [zEH (by intro e; apply h0; simpa using congrArg List.length e)] at hK
   exact hK
theorem zKt (H:Heap) (l:List Bool) (hl:l.length≤4194304) (ht:tot (l.map wayT)≤268435456)
  (ih:∀ t ∈ l,∀ (G:Heap) (K:A→Heap→Prop),K (.d (S (wayT t))) G→ACall Tryz.prog (zK eb) 47 [.d (.bool t)] G K)
  (K:A→Heap→Prop) (hK:K (.d (S (rowT (l.map wayT)))) H):ACall Tryz.prog (zK eb) 46 [.d (.slice (l.map D.bool)),.func 47 []] H K:=by
 refine ACall.by mixed fn46 (by simp) ?_
 conv in s46=>cbv
 refine zG ?_
 simp -dsimp only [go_sem,gS]
 refine zD (fun h=>?_) (fun h=>?_)
 ·have h0:l=[]:=by have:=of_decide_eq_true h; exact List.length_eq_zero_iff.1 (by omega)
  subst h0
  simp -dsimp only [go_sem,gS,h]
  exact zC hK
 ·have h0:l.length≠0:=by intro e; have:=of_decide_eq_false h; omega
  simp -dsimp only [go_sem,gS,h]
  refine zA (by omega) ?_
  simp -dsimp only [go_sem,gS]
  refine yO (fun b v hb hn hm hv=>?_)
  simp -dsimp only [go_sem,gS,hn,hm]
  refine yP (X:=Nat) (fun k=>[(1,.func 47 []),(5,.own b v),(14,.d (.slice (l.map D.bool))),(15,.d (.int .i64 l.length)),(16,.d (.int .i64 k))])
   (fun k G=>k≤l.length∧LeH (upd H b (.arr 9 1 v (wsK wayT l k))) G) (fun k=>l.length - k) 0 _ ⟨by omega,.refl _⟩ (by simp -dsimp only [go_sem,gS]; simp) (by rw [zBB]; exact .refl _) ?_
  rintro k G ⟨hk,gle⟩
  have gb:G b=some (.arr 9 1 v (wsK wayT l k)):=gle b _ (zV ..)
  simp -dsimp only [go_sem,gS]
  refine zD (fun h2=>?_) (fun h2=>?_)
  ·have hkl:k < l.length:=by have:=of_decide_eq_true h2; omega
   obtain ⟨x,hx⟩:∃ x,l[k]?=some x:=⟨l[k],List.getElem?_eq_getElem hkl⟩
   have hw:IntKind.i64.wrap ((k:Int)+1)=((k+1:Nat):Int):=by rw [qU (by omega) (by omega)]; omega
   have hm:x ∈ l:=List.mem_of_getElem? hx
   simp -dsimp only [go_sem,gS,h2,hx,zFj,zFk,zT0,zT1]
   refine ih x hm _ _ ?_
   simp -dsimp only [go_sem,gS,gb,zC1 wayT l k hk]
   refine zA (by omega) ?_
   simp -dsimp only [go_sem,gS,gb,zFM wayT l k hkl,D.cells,hw]
   refine zP (k+1) (upd H b (.arr 9 1 v (wsK wayT l (k+1)))) ⟨by omega,.refl _⟩ (by omega) (by simp -dsimp only [go_sem,gS]) ?_
   rw [←zC2 wayT l k _ hx]
   exact zCO gle
  ·have hkl:k=l.length:=by have:=of_decide_eq_false h2; omega
   subst hkl
   simp -dsimp only [go_sem,gS,h2]
   rw [zBA] at gb
   have gl:LeH H G:=fun x o hx=>gle x o (zO hb (.refl H) x o hx)
   have hj:=uT (l.map wayT) [44,32] (by decide)
   refine ACall.frz [true,false] ?_
   simp -dsimp only [go_sem,gS,gb]
   rw [show (l.map wayT).map S=((l.map wayT).map fun s=>(⟨s.toArray⟩:ByteArray)).map .str by simp]
   have hmap:((l.map wayT).map fun s=>(⟨s.toArray⟩:ByteArray)).map (fun x=>x.data.toList)=l.map wayT:=by simp
   refine zCM _ _ (by simp only [List.length_map]; omega) (by rw [hmap]; show (Lib.join (l.map wayT) [44,32]).length≤_; omega) ?_
   rw [hmap]
   simp -dsimp only [go_sem,gS]
   refine zA (by simp only [List.size_toArray,List.length_cons,List.length_nil]; omega) ?_
   simp -dsimp only [go_sem,gS,zY]
   refine zA (by simp only [List.size_toArray,List.length_cons,List.length_nil,List.length_append]; omega) ?_
   simp -dsimp only [go_sem,gS,zY]
   refine zB (G:=H) (zO hb gl) (zC ?_)
   rw [zEH (by intro e; apply h0; simpa using congrArg List.length e)] at hK
   exact hK
theorem zKs (H:Heap) (l:List Ty) (hl:l.length≤4194304) (ht:tot (Ty.ts l)≤268435456)
  (ih:∀ t ∈ l,∀ (G:Heap) (K:A→Heap→Prop),K (.d (S t.t)) G→ACall Tryz.prog (zK eb) 25 [.d t.d] G K)
  (K:A→Heap→Prop) (hK:K (.d (S (rowT (Ty.ts l)))) H):ACall Tryz.prog (zK eb) 45 [.d (.slice (Ty.ds l)),.func 25 []] H K:=by
 rw [Ty.ts_map] at ht hK
 rw [Ty.ds_map]
 exact zD0 H l hl ht ih K hK
theorem zKu (H:Heap) (l:List Tm) (hl:l.length≤4194304) (ht:tot (Tm.ts l)≤268435456)
  (ih:∀ t ∈ l,∀ (G:Heap) (K:A→Heap→Prop),K (.d (S t.t)) G→ACall Tryz.prog (zK eb) 22 [.d t.d] G K)
  (K:A→Heap→Prop) (hK:K (.d (S (rowT (Tm.ts l)))) H):ACall Tryz.prog (zK eb) 49 [.d (.slice (Tm.ds l)),.func 22 []] H K:=by
 rw [Tm.ts_map] at ht hK
 rw [Tm.ds_map]
 exact zB5 H l hl ht ih K hK
theorem zVl (b:Bool) (H:Heap) (K:A→Heap→Prop) (hK:K (.d (S (wayT b))) H):ACall Tryz.prog (zK eb) 47 [.d (.bool b)] H K:=by
 refine ACall.by mixed fn47 (by simp) ?_
 conv in s47=>cbv
 refine zG ?_
 cases b
 ·simp -dsimp only [go_sem,gS]
  exact zC hK
 ·simp -dsimp only [go_sem,gS]
  exact zC hK
theorem zXH (b:Str) (H:Heap) (K:A→Heap→Prop) (hK:K (.d (S b)) H):ACall Tryz.prog (zK eb) 43 [.d (S b)] H K:=by
 refine ACall.by mixed fn43 (by simp) ?_
 conv in s43=>cbv
 refine zG ?_
 simp -dsimp only [go_sem,gS]
 exact zC hK
theorem zB1:∀ (t:Ty) (hs:D.sizes t.cs≤4194304) (H:Heap) (K:A→Heap→Prop) (hK:K (.d (S t.t)) H),ACall Tryz.prog (zK eb) 25 [.d t.d] H K
 | .mk v n args,hs,H,K,hK=>by
  have hsz:n.length+1+D.sizes (Ty.ds args)≤4194304:=by simp only [Ty.cs,D.sizes,D.size,vY] at hs; omega
  have hl:args.length≤4194304:=by have:=D.length_le (Ty.ds args); rw [Ty.ds_map,List.length_map] at this; rw [Ty.ds_map] at hsz; omega
  have ht:=Ty.lens args
  have hr:=wO (Ty.ts args)
  rw [Ty.ts_map] at ht hr
  refine ACall.by mixed fn25 (by simp) ?_
  conv in s25=>cbv
  refine zG ?_
  simp -dsimp only [go_sem,gS,Ty.d,Ty.cs]
  refine yL (fun b1 hb1 hn1 hm1=>?_)
  simp -dsimp only [go_sem,gS,Ty.ds_map]
  refine zD0 _ args hl (by omega) (fun t ht' G K hK=>zB1 t ?_ G K hK) _ ?_
  ·have:=D.mem_le (l:=Ty.ds args) (d:=t.d) (by rw [Ty.ds_map]; exact List.mem_map_of_mem ht')
   simp only [Ty.d,D.size] at this
   omega
  ·simp -dsimp only [go_sem,gS]
   refine zA (by simp only [List.size_toArray]; omega) ?_
   simp -dsimp only [go_sem,gS,zY]
   refine zB (G:=H) (zO hb1 (.refl H)) (zC ?_)
   rw [Ty.t,Ty.ts_map] at hK
   exact hK
termination_by t=>SizeOf.sizeOf t
decreasing_by
 have:=List.sizeOf_lt_of_mem ht'
 simp
 omega
end Go.Aug.Prn

/- The forms of terms; words of determinism; a goal within a goal. -/
namespace Go.Aug.Prn
open Go.Proofs
set_option maxRecDepth 100000
set_option linter.unusedSimpArgs false
attribute [local irreducible] hid andK letA zR wN xX yH xR xE wR idxA ldV ldD addO xD appTo wF slA srcK nilQ retW gif sgd yT svc sops xQ yX aopO xT yU aBin aUn wK aLen zL yW zI yG xC yF yZ zJ zM yV zX yE xG xU frzM putE newK newV wP ACall xH wD zW sret cnd szs nilC yK zQ yA
variable {eb:EbG}
theorem term_ok [hm:TabM eb]:∀ (t:Tm) (ho:t.ok) (hs:D.sizes t.cs≤4194304) (H:Heap) (K:A→Heap→Prop) (hK:K (.d (S t.t)) H),ACall Tryz.prog (zK eb) 22 [.d t.d] H K
 | .mk k n i args,ho,hs,H,K,hK=>by
  have hsz:n.length+1+D.sizes (Tm.ds args)≤4194304:=by simp only [Tm.cs,D.sizes,D.size,vY] at hs; omega
  have hl:args.length≤4194304:=by have:=D.length_le (Tm.ds args); rw [Tm.ds_map,List.length_map] at this; rw [Tm.ds_map] at hsz; omega
  have ht:=Tm.lens args ho.2.2
  have hr:=wO (Tm.ts args)
  have hil:=zF2 ho.2.1
  have hio:=ho.2.1
  have hoa:=Tm.oks_mem ho.2.2
  rw [Tm.ts_map] at ht hr
  have hsub:∀ t' ∈ args,D.sizes t'.cs≤4194304:=fun t' ht'=>by
   have:=D.mem_le (l:=Tm.ds args) (d:=t'.d) (by rw [Tm.ds_map]; exact List.mem_map_of_mem ht')
   simp only [Tm.d,D.size] at this
   omega
  rw [Tm.t,Tm.ts_map] at hK
  refine ACall.by mixed fn22 (by simp) ?_
  conv in s22=>cbv
  refine zG ?_
  simp -dsimp only [go_sem,gS,Tm.d,Tm.cs]
  refine yL (fun b1 hb1 hn1 hm1=>?_)
  simp -dsimp only [go_sem,gS,Tm.ds_map]
  refine zD (fun h=>?_) (fun h=>?_)
  ·have hk:k=2:=of_decide_eq_true h
   rw [if_pos hk] at hK
   simp -dsimp only [go_sem,gS,h]
   refine zPZ i hio.1 hio.2 ?_
   simp -dsimp only [go_sem,gS]
   refine zB5 _ args hl (by omega) (fun t ht' G K hK=>term_ok t (hoa t ht') (hsub t ht') G K hK) _ ?_
   simp -dsimp only [go_sem,gS]
   refine zA (by simp only [List.size_toArray]; omega) ?_
   simp -dsimp only [go_sem,gS,zY]
   exact zB (G:=H) (zO hb1 (.refl H)) (zC hK)
  ·have hk:¬ k=2:=of_decide_eq_false h
   rw [if_neg hk] at hK
   simp -dsimp only [go_sem,gS,h]
   refine zB5 _ args hl (by omega) (fun t ht' G K hK=>term_ok t (hoa t ht') (hsub t ht') G K hK) _ ?_
   simp -dsimp only [go_sem,gS]
   refine zA (by simp only [List.size_toArray]; omega) ?_
   simp -dsimp only [go_sem,gS,zY]
   exact zB (G:=H) (zO hb1 (.refl H)) (zC hK)
termination_by t=>SizeOf.sizeOf t
decreasing_by
 all_goals (
  have:=List.sizeOf_lt_of_mem ht'
  simp
  omega)
theorem zS6 (n:Int) (H:Heap) (K:A→Heap→Prop) (hK:K (.d (S (detT n))) H):ACall Tryz.prog (zK eb) 48 [.d (.int .i64 n)] H K:=by
 refine ACall.by mixed fn48 (by simp) ?_
 conv in s48=>cbv
 refine zG ?_
 simp -dsimp only [go_sem,gS]
 refine yL (fun b1 hb1 hn1 hm1=>?_)
 simp -dsimp only [go_sem,gS]
 refine zD (fun h=>?_) (fun h=>?_)
 ·have hn:n < 0:=of_decide_eq_true h
  have e:detT n=[]:=by unfold detT; rw [if_neg (by omega),if_neg (by omega),if_neg (by omega),if_neg (by omega)]
  rw [e] at hK
  simp -dsimp only [go_sem,gS,h]
  exact zB (G:=H) (zO hb1 (zO hb1 (.refl H))) (zC hK)
 ·have hn:¬ n < 0:=of_decide_eq_false h
  simp -dsimp only [go_sem,gS,h]
  refine zD (fun h2=>?_) (fun h2=>?_)
  ·have hn2:5≤n:=of_decide_eq_true h2
   have e:detT n=[]:=by unfold detT; rw [if_neg (by omega),if_neg (by omega),if_neg (by omega),if_neg (by omega)]
   rw [e] at hK
   simp -dsimp only [go_sem,gS,h2]
   exact zB (G:=H) (zO hb1 (zO hb1 (.refl H))) (zC hK)
  ·have hn2:¬ 5≤n:=of_decide_eq_false h2
   have:n=0∨n=1∨n=2∨n=3∨n=4:=by omega
   rcases this with rfl | rfl | rfl | rfl | rfl <;> (simp -dsimp only [go_sem,gS,h2]; refine zA (by decide) ?_; simp -dsimp only [go_sem,gS,Int.reduceToNat]; exact zB (G:=H) (zO hb1 (zO hb1 (.refl H))) (zC hK))
theorem Gl.open (g:Gl):∃ gk ak an ai aa bk bn bi ba n ga gs,g=.mk gk (.mk ak an ai aa) (.mk bk bn bi ba) n ga gs:=by
 obtain ⟨gk,⟨ak,an,ai,aa⟩,⟨bk,bn,bi,ba⟩,n,ga,gs⟩:=g
 exact ⟨_,_,_,_,_,_,_,_,_,_,_,_,rfl⟩
theorem Gl.dopen (g:Gl):∃ x1 x2 x3 x4 x5 x6 x7 x8 x9 x10 x11 x12,g.d=.agg [x1,x2,x3,x4,x5,x6,x7,x8,x9,x10,x11,x12]:=by
 obtain ⟨gk,⟨ak,an,ai,aa⟩,⟨bk,bn,bi,ba⟩,n,ga,gs⟩:=g
 exact ⟨_,_,_,_,_,_,_,_,_,_,_,_,rfl⟩
theorem Gl.w_t (k:Int) (g:Gl) (h:loose k g.kind=true):Gl.w k g=40::(g.t++[41]):=by unfold Gl.w; rw [h]; rfl
theorem Gl.w_f (k:Int) (g:Gl) (h:loose k g.kind=false):Gl.w k g=g.t:=by unfold Gl.w; rw [h]; rfl
theorem zHx (k:Int) (g:Gl) (hg:g.ok) (hs:D.sizes g.cs≤4194304) (ih:∀ (G:Heap) (K:A→Heap→Prop),K (.d (S g.t)) G→ACall Tryz.prog (zK eb) 19 [.d g.d] G K)
  (H:Heap) (K:A→Heap→Prop) (hK:K (.d (S (Gl.w k g))) H):ACall Tryz.prog (zK eb) 99 [.d (.int .i64 k),.d g.d] H K:=by
 have hl:=Gl.len g hg
 refine ACall.by mixed fn99 (by simp) ?_
 conv in s99=>cbv
 refine zG ?_
 obtain ⟨gk,ak,an,ai,aa,bk,bn,bi,ba,n,ga,gs,he⟩:=Gl.open g
 have hd:g.d=.agg [.int .i64 gk,.int .i64 ak,S an,.int .i64 ai,.slice (Tm.ds aa),.int .i64 bk,S bn,.int .i64 bi,.slice (Tm.ds ba),S n,.slice (Tm.ds ga),.slice (Gl.ds gs)]:=by rw [he]; rfl
 have hkd:g.kind=gk:=by rw [he]; rfl
 simp -dsimp only [go_sem,gS,hd]
 refine yL (fun b1 hb1 hn1 hm1=>?_)
 simp -dsimp only [go_sem,gS]
 rw [←hd]
 refine ih _ _ ?_
 simp -dsimp only [go_sem,gS]
 refine zD (fun h=>?_) (fun h=>?_)
 ·have h6:gk=6:=of_decide_eq_true h
  rw [Gl.w_t k g (by rw [hkd,h6]; rfl)] at hK
  simp -dsimp only [go_sem,gS,h]
  refine zA (by simp only [List.size_toArray,List.length_cons,List.length_nil]; omega) ?_
  simp -dsimp only [go_sem,gS,zY]
  refine zA (by simp only [List.size_toArray,List.length_cons,List.length_nil,List.length_append]; omega) ?_
  simp -dsimp only [go_sem,gS,zY]
  exact zB (G:=H) (zO hb1 (.refl H)) (zC hK)
 ·have h6:¬ gk=6:=of_decide_eq_false h
  simp -dsimp only [go_sem,gS,h]
  refine zD (fun h2=>?_) (fun h2=>?_)
  ·have h5:gk=5:=of_decide_eq_true h2
   simp -dsimp only [go_sem,gS,h2]
   refine zD (fun h3=>?_) (fun h3=>?_)
   ·have hk6:¬ k=6:=by simpa using h3
    rw [Gl.w_t k g (by rw [hkd,h5]; simp [loose,hk6])] at hK
    simp -dsimp only [go_sem,gS,h3]
    refine zA (by simp only [List.size_toArray,List.length_cons,List.length_nil]; omega) ?_
    simp -dsimp only [go_sem,gS,zY]
    refine zA (by simp only [List.size_toArray,List.length_cons,List.length_nil,List.length_append]; omega) ?_
    simp -dsimp only [go_sem,gS,zY]
    exact zB (G:=H) (zO hb1 (.refl H)) (zC hK)
   ·have hk6:k=6:=by simpa using h3
    rw [Gl.w_f k g (by rw [hkd,h5,hk6]; rfl)] at hK
    simp -dsimp only [go_sem,gS,h3]
    exact zB (G:=H) (zO hb1 (.refl H)) (zC hK)
  ·have h5:¬ gk=5:=of_decide_eq_false h2
   rw [Gl.w_f k g (by rw [hkd]; simp [loose,h5,h6])] at hK
   simp -dsimp only [go_sem,gS,h2]
   exact zB (G:=H) (zO hb1 (.refl H)) (zC hK)
end Go.Aug.Prn

/- The forms of goals. -/
namespace Go.Aug.Prn
open Go.Proofs
set_option maxRecDepth 100000
set_option linter.unusedSimpArgs false
attribute [local irreducible] hid andK letA zR wN xX yH xR xE wR idxA ldV ldD addO xD appTo wF slA srcK nilQ retW gif sgd yT svc sops xQ yX aopO xT yU aBin aUn wK aLen zL yW zI yG xC yF yZ zJ zM yV zX yE xG xU frzM putE newK newV wP ACall xH wD zW sret cnd szs nilC yK zQ yA
variable {eb:EbG}
def zMu (eb:EbG) (f:FuncId) (gs:List Gl):Prop :=
 ∀ g ∈ gs,∀ (G:Heap) (K:A→Heap→Prop),K (.d (S g.t)) G→ACall Tryz.prog (zK eb) f [.d g.d] G K
theorem zH1 (i:Nat) (hi:i≤1) (g:Gl) (hg:g.ok) (hs:D.sizes g.cs≤4194304) {gk:Int} {a b:Tm} {n:Str} {ga:List Tm} {gs:List Gl} (he:g=.mk gk a b n ga gs) (ih:zMu eb 19 gs)
  (H:Heap) (K:A→Heap→Prop) (hK:K (.d (S ((Gl.ws gk gs).getD i []))) H):ACall Tryz.prog (zK eb) 55 [.d g.d,.d (.int .i64 i)] H K:=by
 obtain ⟨ak,an,ai,aa⟩:=a
 obtain ⟨bk,bn,bi,ba⟩:=b
 have hd:g.d=.agg [.int .i64 gk,.int .i64 ak,S an,.int .i64 ai,.slice (Tm.ds aa),.int .i64 bk,S bn,.int .i64 bi,.slice (Tm.ds ba),S n,.slice (Tm.ds ga),.slice (Gl.ds gs)]:=by rw [he]; rfl
 have hgs:Gl.oks gs:=by rw [he] at hg; exact hg.2.2.2.2
 have hsz:D.sizes (Gl.ds gs)≤4194304:=by
  have:D.sizes g.cs+1=(g.d).size:=rfl
  rw [hd] at this
  simp only [D.size,D.sizes] at this
  omega
 have hl:gs.length≤4194304:=by have:=D.length_le (Gl.ds gs); rw [Gl.ds_map,List.length_map] at this; rw [Gl.ds_map] at hsz; omega
 rw [Gl.ws_map] at hK
 refine ACall.by mixed fn55 (by simp) ?_
 conv in s55=>cbv
 refine zG ?_
 simp -dsimp only [go_sem,gS,hd]
 refine yL (fun b1 hb1 hn1 hm1=>?_)
 simp -dsimp only [go_sem,gS,Gl.ds_map]
 refine zD (fun h=>?_) (fun h=>?_)
 ·have hil:gs.length≤i:=by have:=of_decide_eq_true h; omega
  have e:(gs.map (Gl.w gk)).getD i []=[]:=by simp [List.getD,hil]
  rw [e] at hK
  simp -dsimp only [go_sem,gS,h]
  exact zB (G:=H) (zO hb1 (.refl H)) (zC hK)
 ·have hil:i < gs.length:=by have:=of_decide_eq_false h; omega
  obtain ⟨x,hx⟩:∃ x,gs[i]?=some x:=⟨gs[i],List.getElem?_eq_getElem hil⟩
  have hmx:x ∈ gs:=List.mem_of_getElem? hx
  have e:(gs.map (Gl.w gk)).getD i []=Gl.w gk x:=by simp [List.getD,hx]
  rw [e] at hK
  have hxs:D.sizes x.cs≤4194304:=by
   have:=D.mem_le (l:=Gl.ds gs) (d:=x.d) (by rw [Gl.ds_map]; exact List.mem_map_of_mem hmx)
   simp only [Gl.d,D.size] at this
   omega
  obtain ⟨x1,x2,x3,x4,x5,x6,x7,x8,x9,x10,x11,x12,hdx⟩:=Gl.dopen x
  simp -dsimp only [go_sem,gS,h,hx]
  refine zA (by rw [hdx]; rfl) ?_
  simp -dsimp only [go_sem,gS,hdx,D.cells]
  rw [←hdx]
  refine zHx gk x (Gl.oks_mem hgs x hmx) hxs (ih x hmx) _ _ ?_
  simp -dsimp only [go_sem,gS]
  exact zB (G:=H) (zO hb1 (.refl H)) (zC hK)
theorem zA9 (sep:Str) (hsep:sep.length≤4) (g:Gl) (hg:g.ok) (hs:D.sizes g.cs≤4194304) {gk:Int} {a b:Tm} {n:Str} {ga:List Tm} {gs:List Gl} (he:g=.mk gk a b n ga gs) (ih:zMu eb 19 gs)
  (H:Heap) (K:A→Heap→Prop) (hK:K (.d (S (Lib.join (Gl.ws gk gs) sep))) H):ACall Tryz.prog (zK eb) 54 [.d g.d,.d (S sep)] H K:=by
 obtain ⟨ak,an,ai,aa⟩:=a
 obtain ⟨bk,bn,bi,ba⟩:=b
 have hd:g.d=.agg [.int .i64 gk,.int .i64 ak,S an,.int .i64 ai,.slice (Tm.ds aa),.int .i64 bk,S bn,.int .i64 bi,.slice (Tm.ds ba),S n,.slice (Tm.ds ga),.slice (Gl.ds gs)]:=by rw [he]; rfl
 have hgs:Gl.oks gs:=by rw [he] at hg; exact hg.2.2.2.2
 have hsz:D.sizes (Gl.ds gs)≤4194304:=by
  have:D.sizes g.cs+1=(g.d).size:=rfl
  rw [hd] at this
  simp only [D.size,D.sizes] at this
  omega
 have hl:gs.length≤4194304:=by have:=D.length_le (Gl.ds gs); rw [Gl.ds_map,List.length_map] at this; rw [Gl.ds_map] at hsz; omega
 have ht:=Gl.lens gs hgs gk
 rw [Gl.ws_map] at hK ht
 refine ACall.by mixed fn54 (by simp) ?_
 conv in s54=>cbv
 refine zG ?_
 simp -dsimp only [go_sem,gS,hd]
 refine yL (fun b1 hb1 hn1 hm1=>?_)
 simp -dsimp only [go_sem,gS,Gl.ds_map]
 refine zA (by omega) ?_
 simp -dsimp only [go_sem,gS,Gl.ds_map]
 refine yO (fun b v hb hn hm hv=>?_)
 generalize hHB:upd H b1 _=HB at hb hn hm ⊢
 have g1:=congrFun hHB b1
 rw [zV] at g1
 have g1:=g1.symm
 have hle:LeH H HB:=by rw [←hHB]; exact zO hb1 (.refl H)
 have e1:eqn b1 b=false:=hn b1 (by rw [g1]; rfl)
 simp -dsimp only [go_sem,gS,hn,hm,e1,g1]
 refine yP (X:=Nat) (fun k=>[(1,.d (S sep)),(2,.ref b1 0),(5,.own b v),(13,.d (.slice (gs.map Gl.d))),(14,.d (.int .i64 gs.length)),(15,.d (.int .i64 k))])
  (fun k G=>k≤gs.length∧LeH (upd HB b (.arr 9 1 v (wsK (Gl.w gk) gs k))) G) (fun k=>gs.length - k) 0 _ ⟨by omega,.refl _⟩ (by simp -dsimp only [go_sem,gS]; simp) (by rw [zBB]; exact .refl _) ?_
 rintro k G ⟨hk,gle⟩
 have gb:G b=some (.arr 9 1 v (wsK (Gl.w gk) gs k)):=gle b _ (zV ..)
 have g1':=gle b1 _ (by rw [xI _ _ (by rintro rfl; rw [g1] at hb; cases hb)]; exact g1)
 simp -dsimp only [go_sem,gS]
 refine zD (fun h2=>?_) (fun h2=>?_)
 ·have hkl:k < gs.length:=by have:=of_decide_eq_true h2; omega
  obtain ⟨x,hx⟩:∃ x,gs[k]?=some x:=⟨gs[k],List.getElem?_eq_getElem hkl⟩
  have hw:IntKind.i64.wrap ((k:Int)+1)=((k+1:Nat):Int):=by rw [qU (by omega) (by omega)]; omega
  have hmx:x ∈ gs:=List.mem_of_getElem? hx
  have hxs:D.sizes x.cs≤4194304:=by
   have:=D.mem_le (l:=Gl.ds gs) (d:=x.d) (by rw [Gl.ds_map]; exact List.mem_map_of_mem hmx)
   simp only [Gl.d,D.size] at this
   omega
  obtain ⟨x1,x2,x3,x4,x5,x6,x7,x8,x9,x10,x11,x12,hdx⟩:=Gl.dopen x
  simp -dsimp only [go_sem,gS,h2,hx]
  refine zA (by rw [hdx]; rfl) ?_
  simp -dsimp only [go_sem,gS,hdx,D.cells]
  refine yL (fun b7 hb7 hn7 hm7=>?_)
  have e7:eqn b b7=false:=hn7 b (by rw [gb]; rfl)
  have e71:eqn b1 b7=false:=hn7 b1 (by rw [g1']; rfl)
  simp -dsimp only [go_sem,gS,e7,e71,g1']
  rw [←hdx]
  refine zHx gk x (Gl.oks_mem hgs x hmx) hxs (ih x hmx) _ _ ?_
  simp -dsimp only [go_sem,gS,e7,gb,zC1 (Gl.w gk) gs k hk]
  refine zA (by omega) ?_
  simp -dsimp only [go_sem,gS,e7,gb,zFM (Gl.w gk) gs k hkl,D.cells,hw]
  refine zP (k+1) (upd HB b (.arr 9 1 v (wsK (Gl.w gk) gs (k+1)))) ⟨by omega,.refl _⟩ (by omega) (by simp -dsimp only [go_sem,gS]) ?_
  rw [←zC2 (Gl.w gk) gs k _ hx]
  exact zCO (gle.trans (by repeat first | exact .refl _ | refine zO hb7 ?_))
 ·have hkl:k=gs.length:=by have:=of_decide_eq_false h2; omega
  subst hkl
  simp -dsimp only [go_sem,gS,h2]
  rw [zBA] at gb
  have gl:LeH H G:=hle.trans (fun x o hx=>gle x o (zO hb (.refl HB) x o hx))
  have hj:=uT (gs.map (Gl.w gk)) sep hsep
  refine ACall.frz [true,false] ?_
  simp -dsimp only [go_sem,gS,gb]
  rw [show (gs.map (Gl.w gk)).map S=((gs.map (Gl.w gk)).map fun s=>(⟨s.toArray⟩:ByteArray)).map .str by simp]
  have hmap:((gs.map (Gl.w gk)).map fun s=>(⟨s.toArray⟩:ByteArray)).map (fun x=>x.data.toList)=gs.map (Gl.w gk):=by simp
  refine zCM _ _ (by simp only [List.length_map]; omega) (by rw [hmap]; show (Lib.join (gs.map (Gl.w gk)) sep).length≤_; omega) ?_
  rw [hmap]
  simp -dsimp only [go_sem,gS]
  exact zB (G:=H) (zO (zKO hle hb) gl) (zC hK)
end Go.Aug.Prn

/- The forms of goals: Goal. -/
namespace Go.Aug.Prn
open Go.Proofs
set_option maxRecDepth 100000
set_option linter.unusedSimpArgs false
attribute [local irreducible] hid andK letA zR wN xX yH xR xE wR idxA ldV ldD addO xD appTo wF slA srcK nilQ retW gif sgd yT svc sops xQ yX aopO xT yU aBin aUn wK aLen zL yW zI yG xC yF yZ zJ zM yV zX yE xG xU frzM putE newK newV wP ACall xH wD zW sret cnd szs nilC yK zQ yA
variable {eb:EbG}
theorem zD9 [hm:TabM eb]:∀ (g:Gl) (ho:g.ok) (hs:D.sizes g.cs≤4194304) (H:Heap) (K:A→Heap→Prop) (hK:K (.d (S g.t)) H),ACall Tryz.prog (zK eb) 19 [.d g.d] H K
 | .mk gk a b n ga gs,ho,hs,H,K,hK=>by
  obtain ⟨g,he⟩:∃ g,g=Gl.mk gk a b n ga gs:=⟨_,rfl⟩
  have hlen:=Gl.len _ ho
  have hgs:Gl.oks gs:=ho.2.2.2.2
  have hes:D.sizes (Gl.cs (.mk gk a b n ga gs))=1+(D.sizes a.cs+(D.sizes b.cs+(n.length+1+(D.sizes (Tm.ds ga)+1+(D.sizes (Gl.ds gs)+1))))):=by
   simp only [Gl.cs,D.sizes,D.sizes_append,D.size,vY]
  have hsz:D.sizes (Gl.ds gs)≤4194304:=by omega
  have has:D.sizes a.cs≤4194304:=by omega
  have hbs:D.sizes b.cs≤4194304:=by omega
  have hgz:D.sizes (Tm.ds ga)≤4194304:=by omega
  have hnz:n.length≤4194304:=by omega
  have hal:=a.len ho.2.1
  have hbl:=b.len ho.2.2.1
  have hga:ga.length≤4194304:=by have:=D.length_le (Tm.ds ga); rw [Tm.ds_map,List.length_map] at this; rw [Tm.ds_map] at hes; omega
  have hgt:=Tm.lens ga ho.2.2.2.1
  have hgr:=wO (Tm.ts ga)
  have hgo:=Tm.oks_mem ho.2.2.2.1
  have hgsub:∀ t' ∈ ga,D.sizes t'.cs≤4194304:=fun t' ht'=>by
   have:=D.mem_le (l:=Tm.ds ga) (d:=t'.d) (by rw [Tm.ds_map]; exact List.mem_map_of_mem ht')
   simp only [Tm.d,D.size] at this
   omega
  have hwl:=Gl.lens gs hgs gk
  have hw2:=zD8 (Gl.ws gk gs)
  have hgl:gs.length≤4194304:=by have:=D.length_le (Gl.ds gs); rw [Gl.ds_map,List.length_map] at this; rw [Gl.ds_map] at hsz; omega
  have ih:zMu eb 19 gs:=fun g' hg' G K hK=>zD9 g' (Gl.oks_mem hgs g' hg') (by
   have:=D.mem_le (l:=Gl.ds gs) (d:=g'.d) (by rw [Gl.ds_map]; exact List.mem_map_of_mem hg')
   simp only [Gl.d,D.size] at this
   omega) G K hK
  rw [←he] at ho hs
  have hoa:=(show Gl.ok (.mk gk a b n ga gs) by rw [←he]; exact ho).2.1
  have hob:=(show Gl.ok (.mk gk a b n ga gs) by rw [←he]; exact ho).2.2.1
  refine ACall.by mixed fn19 (by simp) ?_
  conv in s19=>cbv
  refine zG ?_
  obtain ⟨ak,an,ai,aa⟩:=a
  obtain ⟨bk,bn,bi,ba⟩:=b
  have hd:g.d=.agg [.int .i64 gk,.int .i64 ak,S an,.int .i64 ai,.slice (Tm.ds aa),.int .i64 bk,S bn,.int .i64 bi,.slice (Tm.ds ba),S n,.slice (Tm.ds ga),.slice (Gl.ds gs)]:=by rw [he]; rfl
  have hda:Tm.d (.mk ak an ai aa)=.agg [.int .i64 ak,S an,.int .i64 ai,.slice (Tm.ds aa)]:=rfl
  have hdb:Tm.d (.mk bk bn bi ba)=.agg [.int .i64 bk,S bn,.int .i64 bi,.slice (Tm.ds ba)]:=rfl
  rw [←he,hd]
  unfold Gl.t at hK
  simp -dsimp only [go_sem,gS]
  refine yL (fun b1 hb1 hn1 hm1=>?_)
  simp -dsimp only [go_sem,gS]
  have hret:∀ (s:Str),K (.d (S s)) H→retW (zK eb) (.d (.str ⟨s.toArray⟩)) (upd H b1 (.var [.d (.int .i64 gk),.d (.int .i64 ak),.d (S an),.d (.int .i64 ai),.d (.slice (Tm.ds aa)),.d (.int .i64 bk),.d (S bn),.d (.int .i64 bi),.d (.slice (Tm.ds ba)),.d (S n),.d (.slice (Tm.ds ga)),.d (.slice (Gl.ds gs))])) K :=
   fun s h=>zB (G:=H) (zO hb1 (.refl H)) (zC h)
  refine zD (fun h1=>?_) (fun h1=>?_)
  ·have hk:gk=1:=of_decide_eq_true h1
   rw [if_pos hk] at hK
   simp -dsimp only [go_sem,gS,h1]
   exact hret _ hK
  have k1:¬ gk=1:=of_decide_eq_false h1
  rw [if_neg k1] at hK
  simp -dsimp only [go_sem,gS,h1]
  refine zD (fun h1=>?_) (fun h1=>?_)
  ·have hk:gk=2:=of_decide_eq_true h1
   rw [if_pos hk] at hK
   simp -dsimp only [go_sem,gS,h1]
   exact hret _ hK
  have k1:¬ gk=2:=of_decide_eq_false h1
  rw [if_neg k1] at hK
  simp -dsimp only [go_sem,gS,h1]
  refine zD (fun h1=>?_) (fun h1=>?_)
  ·have hk:gk=3:=of_decide_eq_true h1
   rw [if_pos hk] at hK
   simp -dsimp only [go_sem,gS,h1]
   rw [←hda]
   refine term_ok _ hoa has _ _ ?_
   simp -dsimp only [go_sem,gS,hda,hdb]
   refine zA (by simp only [List.size_toArray,List.length_cons,List.length_nil,List.length_append]; omega) ?_
   simp -dsimp only [go_sem,gS,zY]
   rw [←hdb]
   refine term_ok _ hob hbs _ _ ?_
   simp -dsimp only [go_sem,gS,hda,hdb]
   refine zA (by simp only [List.size_toArray,List.length_cons,List.length_nil,List.length_append]; omega) ?_
   simp -dsimp only [go_sem,gS,zY]
   exact hret _ hK
  have k1:¬ gk=3:=of_decide_eq_false h1
  rw [if_neg k1] at hK
  simp -dsimp only [go_sem,gS,h1]
  refine zD (fun h1=>?_) (fun h1=>?_)
  ·have hk:gk=4:=of_decide_eq_true h1
   rw [if_pos hk] at hK
   simp -dsimp only [go_sem,gS,h1,Tm.ds_map]
   rw [Tm.ts_map] at hK hgt hgr
   refine zB5 _ ga hga (by omega) (fun t ht' G K hK=>term_ok t (hgo t ht') (hgsub t ht') G K hK) _ ?_
   simp -dsimp only [go_sem,gS]
   refine zA (by simp only [List.size_toArray,List.length_cons,List.length_nil,List.length_append]; omega) ?_
   simp -dsimp only [go_sem,gS,zY]
   exact zB (G:=H) (zO hb1 (.refl H)) (zC hK)
  have k1:¬ gk=4:=of_decide_eq_false h1
  rw [if_neg k1] at hK
  simp -dsimp only [go_sem,gS,h1]
  refine zD (fun h1=>?_) (fun h1=>?_)
  ·have hk:gk=5:=of_decide_eq_true h1
   rw [if_pos hk] at hK
   simp -dsimp only [go_sem,gS,h1]
   rw [←hd]
   refine zA9 [44,32] (by decide) g ho hs he ih _ _ ?_
   simp -dsimp only [go_sem,gS]
   exact hret _ hK
  have k1:¬ gk=5:=of_decide_eq_false h1
  rw [if_neg k1] at hK
  simp -dsimp only [go_sem,gS,h1]
  refine zD (fun h1=>?_) (fun h1=>?_)
  ·have hk:gk=6:=of_decide_eq_true h1
   rw [if_pos hk] at hK
   simp -dsimp only [go_sem,gS,h1]
   rw [←hd]
   refine zA9 [32,59,32] (by decide) g ho hs he ih _ _ ?_
   simp -dsimp only [go_sem,gS]
   exact hret _ hK
  have k1:¬ gk=6:=of_decide_eq_false h1
  rw [if_neg k1] at hK
  simp -dsimp only [go_sem,gS,h1]
  refine zD (fun h1=>?_) (fun h1=>?_)
  ·have hk:gk=7:=of_decide_eq_true h1
   rw [if_pos hk] at hK
   simp -dsimp only [go_sem,gS,h1]
   rw [←hd]
   refine zH1 0 (by omega) g ho hs he ih _ _ ?_
   simp -dsimp only [go_sem,gS]
   refine zA (by simp only [List.size_toArray,List.length_cons,List.length_nil,List.length_append]; omega) ?_
   simp -dsimp only [go_sem,gS,zY]
   exact hret _ hK
  have k1:¬ gk=7:=of_decide_eq_false h1
  rw [if_neg k1] at hK
  simp -dsimp only [go_sem,gS,h1]
  refine zD (fun h1=>?_) (fun h1=>?_)
  ·have hk:gk=8:=of_decide_eq_true h1
   rw [if_pos hk] at hK
   simp -dsimp only [go_sem,gS,h1]
   rw [←hda]
   refine term_ok _ hoa has _ _ ?_
   simp -dsimp only [go_sem,gS]
   refine zA (by simp only [List.size_toArray,List.length_cons,List.length_nil,List.length_append]; omega) ?_
   simp -dsimp only [go_sem,gS,zY]
   exact hret _ hK
  have k1:¬ gk=8:=of_decide_eq_false h1
  rw [if_neg k1] at hK
  simp -dsimp only [go_sem,gS,h1]
  refine zD (fun h1=>?_) (fun h1=>?_)
  ·have hk:gk=9:=of_decide_eq_true h1
   rw [if_pos hk] at hK
   simp -dsimp only [go_sem,gS,h1]
   rw [←hd]
   refine zH1 0 (by omega) g ho hs he ih _ _ ?_
   simp -dsimp only [go_sem,gS]
   refine ⟨by rw [hd], ?_⟩
   refine zA (by simp only [List.size_toArray,List.length_cons,List.length_nil,List.length_append]; omega) ?_
   simp -dsimp only [go_sem,gS,zY]
   refine zA (by simp only [List.size_toArray,List.length_cons,List.length_nil,List.length_append]; omega) ?_
   simp -dsimp only [go_sem,gS,zY]
   refine zA (by simp only [List.size_toArray,List.length_cons,List.length_nil,List.length_append]; omega) ?_
   simp -dsimp only [go_sem,gS,zY]
   refine zA (by simp only [List.size_toArray,List.length_cons,List.length_nil,List.length_append]; omega) ?_
   simp -dsimp only [go_sem,gS,zY]
   refine zH1 1 (by omega) g ho hs he ih _ _ ?_
   simp -dsimp only [go_sem,gS]
   refine zA (by simp only [List.size_toArray,List.length_cons,List.length_nil,List.length_append]; omega) ?_
   simp -dsimp only [go_sem,gS,zY]
   exact hret _ hK
  have k1:¬ gk=9:=of_decide_eq_false h1
  rw [if_neg k1] at hK
  simp -dsimp only [go_sem,gS,h1]
  exact hret _ hK
termination_by g=>SizeOf.sizeOf g
decreasing_by
 all_goals (
  have:=List.sizeOf_lt_of_mem hg'
  simp
  omega)
end Go.Aug.Prn

/- The forms of items. -/
namespace Go.Aug.Prn
open Go.Proofs
set_option maxRecDepth 100000
set_option linter.unusedSimpArgs false
attribute [local irreducible] hid andK letA zR wN xX yH xR xE wR idxA ldV ldD addO xD appTo wF slA srcK nilQ retW gif sgd yT svc sops xQ yX aopO xT yU aBin aUn wK aLen zL yW zI yG xC yF yZ zJ zM yV zX yE xG xU frzM putE newK newV wP ACall xH wD zW sret cnd szs nilC yK zQ yA
variable {eb:EbG}
theorem zMQ (l:List Ct) (hs:D.sizes (l.map Ct.d)≤4194304) (H:Heap) (K:A→Heap→Prop) (hK:K (.d (S (ctorsT l))) H):ACall Tryz.prog (zK eb) 44 [.d (.slice (l.map Ct.d))] H K:=by
 have hl:l.length≤4194304:=by have:=D.length_le (l.map Ct.d); rw [List.length_map] at this; omega
 have ht:=Ct.lens l
 refine ACall.by mixed fn44 (by simp) ?_
 conv in s44=>cbv
 refine zG ?_
 simp -dsimp only [go_sem,gS]
 refine zA (by omega) ?_
 simp -dsimp only [go_sem,gS]
 refine yO (fun b v hb hn hm hv=>?_)
 simp -dsimp only [go_sem,gS,hn,hm]
 refine yP (X:=Nat) (fun k=>[(3,.own b v),(9,.d (.slice (l.map Ct.d))),(10,.d (.int .i64 l.length)),(11,.d (.int .i64 k))])
  (fun k G=>k≤l.length∧LeH (upd H b (.arr 9 1 v (wsK Ct.t l k))) G) (fun k=>l.length - k) 0 _ ⟨by omega,.refl _⟩ (by simp -dsimp only [go_sem,gS]; simp) (by rw [zBB]; exact .refl _) ?_
 rintro k G ⟨hk,gle⟩
 have gb:G b=some (.arr 9 1 v (wsK Ct.t l k)):=gle b _ (zV ..)
 simp -dsimp only [go_sem,gS]
 refine zD (fun h2=>?_) (fun h2=>?_)
 ·have hkl:k < l.length:=by have:=of_decide_eq_true h2; omega
  obtain ⟨x,hx⟩:∃ x,l[k]?=some x:=⟨l[k],List.getElem?_eq_getElem hkl⟩
  have hw:IntKind.i64.wrap ((k:Int)+1)=((k+1:Nat):Int):=by rw [qU (by omega) (by omega)]; omega
  have hmx:x ∈ l:=List.mem_of_getElem? hx
  have hxs:=D.mem_le (l:=l.map Ct.d) (d:=x.d) (List.mem_map_of_mem hmx)
  obtain ⟨xn,xa⟩:=x
  simp only [Ct.d,Ct.cs,D.size,D.sizes,vY] at hxs
  have hal:xa.length≤4194304:=by have:=D.length_le (Ty.ds xa); rw [Ty.ds_map,List.length_map] at this; rw [Ty.ds_map] at hxs; omega
  have hat:=Ty.lens xa
  have har:=wO (Ty.ts xa)
  have hasub:∀ t' ∈ xa,D.sizes t'.cs≤4194304:=fun t' ht'=>by
   have:=D.mem_le (l:=Ty.ds xa) (d:=t'.d) (by rw [Ty.ds_map]; exact List.mem_map_of_mem ht')
   simp only [Ty.d,D.size] at this
   omega
  rw [Ty.ts_map] at hat har
  simp -dsimp only [go_sem,gS,h2,hx]
  refine zA rfl ?_
  simp -dsimp only [go_sem,gS,Ct.d,Ct.cs,D.cells]
  refine yL (fun b7 hb7 hn7 hm7=>?_)
  have e7:eqn b b7=false:=hn7 b (by rw [gb]; rfl)
  simp -dsimp only [go_sem,gS,Ty.ds_map]
  refine zD0 _ xa hal (by omega) (fun t ht' G K hK=>zB1 t (hasub t ht') G K hK) _ ?_
  simp -dsimp only [go_sem,gS,Ty.ds_map]
  refine zA (by simp only [List.size_toArray,List.length_cons,List.length_nil,List.length_append]; omega) ?_
  simp -dsimp only [go_sem,gS,zY,e7,gb,zC1 Ct.t l k hk]
  refine zA (by omega) ?_
  simp -dsimp only [go_sem,gS,e7,gb,zFM Ct.t l k hkl,D.cells,hw]
  refine zP (k+1) (upd H b (.arr 9 1 v (wsK Ct.t l (k+1)))) ⟨by omega,.refl _⟩ (by omega) (by simp -dsimp only [go_sem,gS]) ?_
  rw [←zC2 Ct.t l k _ hx,Ct.t,Ty.ts_map]
  exact zCO (gle.trans (by repeat first | exact .refl _ | refine zO hb7 ?_))
 ·have hkl:k=l.length:=by have:=of_decide_eq_false h2; omega
  subst hkl
  simp -dsimp only [go_sem,gS,h2]
  rw [zBA] at gb
  have gl:LeH H G:=fun x o hx=>gle x o (zO hb (.refl H) x o hx)
  have hj:=uT (l.map Ct.t) [32,124,32] (by decide)
  refine ACall.frz [true,false] ?_
  simp -dsimp only [go_sem,gS,gb]
  rw [show (l.map Ct.t).map S=((l.map Ct.t).map fun s=>(⟨s.toArray⟩:ByteArray)).map .str by simp]
  have hmap:((l.map Ct.t).map fun s=>(⟨s.toArray⟩:ByteArray)).map (fun x=>x.data.toList)=l.map Ct.t:=by simp
  refine zCM _ _ (by simp only [List.length_map]; omega) (by rw [hmap]; show (Lib.join (l.map Ct.t) [32,124,32]).length≤_; omega) ?_
  rw [hmap]
  simp -dsimp only [go_sem,gS]
  exact zB (G:=H) (zO hb gl) (zC hK)
theorem item_ok [hm:TabM eb] (i:It) (ho:i.ok) (hs:D.sizes i.cs≤4194304) (H:Heap) (K:A→Heap→Prop) (hK:K (.d (S i.t)) H):ACall Tryz.prog (zK eb) 14 [.d i.d] H K:=by
 obtain ⟨ik,iname,ivars,ictors,itypes,iins,idet,iargs,g⟩:=i
 obtain ⟨gk,ak,an,ai,aa,bk,bn,bi,ba,n,ga,gs,he⟩:=Gl.open g
 have hd:g.d=.agg [.int .i64 gk,.int .i64 ak,S an,.int .i64 ai,.slice (Tm.ds aa),.int .i64 bk,S bn,.int .i64 bi,.slice (Tm.ds ba),S n,.slice (Tm.ds ga),.slice (Gl.ds gs)]:=by rw [he]; rfl
 have hid':It.d ⟨ik,iname,ivars,ictors,itypes,iins,idet,iargs,g⟩=.agg [.int .i64 ik,S iname,.slice (ivars.map S),.slice (ictors.map Ct.d),.slice (Ty.ds itypes),.slice (iins.map .bool),.int .i64 idet,.slice (Tm.ds iargs),.int .i64 gk,.int .i64 ak,S an,.int .i64 ai,.slice (Tm.ds aa),.int .i64 bk,S bn,.int .i64 bi,.slice (Tm.ds ba),S n,.slice (Tm.ds ga),.slice (Gl.ds gs)]:=by rw [he]; rfl
 have hgk:g.kind=gk:=by rw [he]; rfl
 have hsz:D.sizes (It.cs ⟨ik,iname,ivars,ictors,itypes,iins,idet,iargs,g⟩)=1+(iname.length+1+(D.sizes (ivars.map S)+1+(D.sizes (ictors.map Ct.d)+1+(D.sizes (Ty.ds itypes)+1+(D.sizes (iins.map .bool)+1+(1+(D.sizes (Tm.ds iargs)+1+D.sizes g.cs))))))):=by
  simp only [It.cs,D.sizes,D.size,vY]
 rw [hsz] at hs
 have hvl:ivars.length≤4194304:=by have:=D.length_le (ivars.map S); rw [List.length_map] at this; omega
 have htl:itypes.length≤4194304:=by have:=D.length_le (Ty.ds itypes); rw [Ty.ds_map,List.length_map] at this; rw [Ty.ds_map] at hs; omega
 have hal:iargs.length≤4194304:=by have:=D.length_le (Tm.ds iargs); rw [Tm.ds_map,List.length_map] at this; rw [Tm.ds_map] at hs; omega
 have hil:iins.length≤4194304:=by have:=D.length_le (iins.map D.bool); rw [List.length_map] at this; omega
 have hvt:=zDK ivars
 have hvr:=wO ivars
 have hit:=zDN iins
 have hir:=wO (iins.map wayT)
 have htt:=Ty.lens itypes
 have htr:=wO (Ty.ts itypes)
 have hat:=Tm.lens iargs ho.1
 have har:=wO (Tm.ts iargs)
 have hct:=Ct.lens ictors
 have hcj:=uT (ictors.map Ct.t) [32,124,32] (by decide)
 have hdl:=zFU idet
 have hgl:=Gl.len g ho.2
 have htsub:∀ t' ∈ itypes,D.sizes t'.cs≤4194304:=fun t' ht'=>by
  have:=D.mem_le (l:=Ty.ds itypes) (d:=t'.d) (by rw [Ty.ds_map]; exact List.mem_map_of_mem ht')
  simp only [Ty.d,D.size] at this
  omega
 have hasub:∀ t' ∈ iargs,D.sizes t'.cs≤4194304:=fun t' ht'=>by
  have:=D.mem_le (l:=Tm.ds iargs) (d:=t'.d) (by rw [Tm.ds_map]; exact List.mem_map_of_mem ht')
  simp only [Tm.d,D.size] at this
  omega
 have hao:=Tm.oks_mem ho.1
 have hgo:=ho.2
 refine ACall.by mixed fn14 (by simp) ?_
 conv in s14=>cbv
 refine zG ?_
 rw [hid']
 simp -dsimp only [go_sem,gS]
 refine yL (fun b1 hb1 hn1 hm1=>?_)
 have hret:∀ (s:Str),s=It.t ⟨ik,iname,ivars,ictors,itypes,iins,idet,iargs,g⟩→retW (zK eb) (.d (.str ⟨s.toArray⟩)) (upd H b1 (.var [.d (.int .i64 ik),.d (S iname),.d (.slice (ivars.map S)),.d (.slice (ictors.map Ct.d)),.d (.slice (Ty.ds itypes)),.d (.slice (iins.map .bool)),.d (.int .i64 idet),.d (.slice (Tm.ds iargs)),.d (.int .i64 gk),.d (.int .i64 ak),.d (S an),.d (.int .i64 ai),.d (.slice (Tm.ds aa)),.d (.int .i64 bk),.d (S bn),.d (.int .i64 bi),.d (.slice (Tm.ds ba)),.d (S n),.d (.slice (Tm.ds ga)),.d (.slice (Gl.ds gs))])) K :=
  fun s h=>zB (G:=H) (zO hb1 (.refl H)) (zC (by rw [h]; exact hK))
 simp -dsimp only [go_sem,gS]
 refine zD (fun h=>?_) (fun h=>?_)
 ·have hk:ik=1:=of_decide_eq_true h
  simp -dsimp only [go_sem,gS,h]
  refine zA (by simp only [List.size_toArray,List.length_cons,List.length_nil,List.length_append]; omega) ?_
  simp -dsimp only [go_sem,gS,zY]
  refine zKr _ ivars hvl (by rw [List.map_id]; omega) (fun t ht' G K hK=>zXH t G K hK) _ ?_
  simp -dsimp only [go_sem,gS,List.map_id]
  refine zA (by simp only [List.size_toArray,List.length_cons,List.length_nil,List.length_append]; omega) ?_
  simp -dsimp only [go_sem,gS,zY]
  refine zA (by simp only [List.size_toArray,List.length_cons,List.length_nil,List.length_append]; omega) ?_
  simp -dsimp only [go_sem,gS,zY]
  refine zMQ ictors (by omega) _ _ ?_
  simp -dsimp only [go_sem,gS,ctorsT]
  refine zA (by simp only [List.size_toArray,List.length_cons,List.length_nil,List.length_append]; omega) ?_
  simp -dsimp only [go_sem,gS,zY]
  refine zA (by simp only [List.size_toArray,List.length_cons,List.length_nil,List.length_append]; omega) ?_
  simp -dsimp only [go_sem,gS,zY]
  refine hret _ ?_
  simp only [It.t,It.t0,hk,if_true,ctorsT,List.cons_append,List.nil_append,List.append_assoc]
 have k1:¬ ik=1:=of_decide_eq_false h
 simp -dsimp only [go_sem,gS,h]
 refine zD (fun h=>?_) (fun h=>?_)
 ·have hk:ik=2:=of_decide_eq_true h
  simp -dsimp only [go_sem,gS,h]
  refine zA (by simp only [List.size_toArray,List.length_cons,List.length_nil,List.length_append]; omega) ?_
  simp -dsimp only [go_sem,gS,zY]
  refine zKs _ itypes htl (by omega) (fun t ht' G K hK=>zB1 t (htsub t ht') G K hK) _ ?_
  simp -dsimp only [go_sem,gS]
  refine zA (by simp only [List.size_toArray,List.length_cons,List.length_nil,List.length_append]; omega) ?_
  simp -dsimp only [go_sem,gS,zY]
  refine zA (by simp only [List.size_toArray,List.length_cons,List.length_nil,List.length_append]; omega) ?_
  simp -dsimp only [go_sem,gS,zY]
  refine hret _ ?_
  simp only [It.t,It.t0,hk,if_neg (show ¬ (2:Int)=1 by decide),if_true,List.cons_append,List.nil_append,List.append_assoc]
 have k2:¬ ik=2:=of_decide_eq_false h
 simp -dsimp only [go_sem,gS,h]
 refine zD (fun h=>?_) (fun h=>?_)
 ·have hk:ik=3:=of_decide_eq_true h
  simp -dsimp only [go_sem,gS,h]
  refine zA (by simp only [List.size_toArray,List.length_cons,List.length_nil,List.length_append]; omega) ?_
  simp -dsimp only [go_sem,gS,zY]
  refine zKt _ iins hil (by omega) (fun t ht' G K hK=>zVl t G K hK) _ ?_
  simp -dsimp only [go_sem,gS]
  refine zA (by simp only [List.size_toArray,List.length_cons,List.length_nil,List.length_append]; omega) ?_
  simp -dsimp only [go_sem,gS,zY]
  refine zA (by simp only [List.size_toArray,List.length_cons,List.length_nil,List.length_append]; omega) ?_
  simp -dsimp only [go_sem,gS,zY]
  refine zS6 idet _ _ ?_
  simp -dsimp only [go_sem,gS]
  refine zA (by simp only [List.size_toArray,List.length_cons,List.length_nil,List.length_append]; omega) ?_
  simp -dsimp only [go_sem,gS,zY]
  refine zA (by simp only [List.size_toArray,List.length_cons,List.length_nil,List.length_append]; omega) ?_
  simp -dsimp only [go_sem,gS,zY]
  refine hret _ ?_
  simp only [It.t,It.t0,hk,if_neg (show ¬ (3:Int)=1 by decide),if_neg (show ¬ (3:Int)=2 by decide),if_true,List.cons_append,List.nil_append,List.append_assoc]
 have k3:¬ ik=3:=of_decide_eq_false h
 simp -dsimp only [go_sem,gS,h]
 refine zD (fun h=>?_) (fun h=>?_)
 ·have hk:ik=4:=of_decide_eq_true h
  simp -dsimp only [go_sem,gS,h]
  refine zKu _ iargs hal (by omega) (fun t ht' G K hK=>term_ok t (hao t ht') (hasub t ht') G K hK) _ ?_
  simp -dsimp only [go_sem,gS]
  refine zA (by simp only [List.size_toArray,List.length_cons,List.length_nil,List.length_append]; omega) ?_
  simp -dsimp only [go_sem,gS,zY]
  refine zD (fun h=>?_) (fun h=>?_)
  ·have hg1:¬ gk=1:=by simpa using h
   simp -dsimp only [go_sem,gS,h]
   rw [←hd]
   refine zD9 g hgo (by omega) _ _ ?_
   simp -dsimp only [go_sem,gS]
   refine zA (by simp only [List.size_toArray,List.length_cons,List.length_nil,List.length_append]; omega) ?_
   simp -dsimp only [go_sem,gS,zY]
   refine zA (by simp only [List.size_toArray,List.length_cons,List.length_nil,List.length_append]; omega) ?_
   simp -dsimp only [go_sem,gS,zY]
   refine zA (by simp only [List.size_toArray,List.length_cons,List.length_nil,List.length_append]; omega) ?_
   simp -dsimp only [go_sem,gS,zY]
   refine hret _ ?_
   simp only [It.t,It.t0,hk,hgk,if_neg (show ¬ (4:Int)=1 by decide),if_neg (show ¬ (4:Int)=2 by decide),if_neg (show ¬ (4:Int)=3 by decide),if_true,if_neg hg1,List.cons_append,List.nil_append,List.append_assoc]
  ·have hg1:gk=1:=by simpa using h
   simp -dsimp only [go_sem,gS,h]
   refine zA (by simp only [List.size_toArray,List.length_cons,List.length_nil,List.length_append]; omega) ?_
   simp -dsimp only [go_sem,gS,zY]
   refine hret _ ?_
   simp only [It.t,It.t0,hk,hgk,if_neg (show ¬ (4:Int)=1 by decide),if_neg (show ¬ (4:Int)=2 by decide),if_neg (show ¬ (4:Int)=3 by decide),if_true,if_pos hg1,List.cons_append,List.nil_append,List.append_assoc]
 have k4:¬ ik=4:=of_decide_eq_false h
 simp -dsimp only [go_sem,gS,h]
 refine zA (by simp only [List.size_toArray,List.length_cons,List.length_nil,List.length_append]; omega) ?_
 simp -dsimp only [go_sem,gS,zY]
 refine hret _ ?_
 simp only [It.t,It.t0,if_neg k1,if_neg k2,if_neg k3,if_neg k4,List.nil_append]
end Go.Aug.Prn

/- The reference's rows, terms and types. -/
namespace Go.Aug.Prn
open Go.Proofs
set_option maxRecDepth 100000
set_option linter.unusedSimpArgs false
theorem zKM (l:List Str) (w sep:Str):Lib.join (l++[w]) sep=(if l=[] then w else Lib.join l sep++sep++w):=by
 cases l with
 | nil=>simp [Lib.join_one]
 | cons x r =>
  rw [if_neg (by simp)]
  simp only [List.cons_append,Lib.join_cons,Lib.joinTail,List.map_append,List.map_cons,List.map_nil,List.flatten_append,List.flatten_cons,List.flatten_nil,List.append_nil,List.append_assoc]
theorem zOO (l:List Str):∀ k,tot (l.take k)≤tot l:=by
 induction l with
 | nil=>simp
 | cons x l ih =>
  intro k
  cases k with
  | zero=>simp [tot]
  | succ k=>have:=ih k; simp only [tot,List.take_succ_cons,List.map_cons,List.sum_cons] at this ⊢; omega
attribute [local irreducible] hid andK letA zR wN xX yH xR xE wR idxA ldV ldD addO xD appTo wF slA srcK nilQ retW gif sgd yT svc sops xQ yX aopO xT yU aBin aUn wK aLen zL yW zI yG xC yF yZ zJ zM yV zX yE xG xU frzM putE newK newV wP ACall xH wD zW sret cnd szs nilC yK zQ yA
variable {eb:EbG}
theorem zDF (ws:List Str) (sep:Str) (hs:sep.length≤4) (ht:tot ws≤268435456) (H:Heap) (K:A→Heap→Prop) (hK:K (.d (S (Lib.join ws sep))) H) :
  ACall Tryz.prog (zK eb) 82 [.d (.slice (ws.map S)),.d (S sep)] H K:=by
 have hl:ws.length≤268435456:=by
  have:∀ ws:List Str,ws.length≤tot ws:=by
   intro ws
   induction ws with
   | nil=>simp
   | cons x l ih=>simp only [tot,List.map_cons,List.sum_cons,List.length_cons] at ih ⊢; omega
  have:=this ws; omega
 refine ACall.by mixed fn82 (by simp) ?_
 conv in s82=>cbv
 refine zG ?_
 simp -dsimp only [go_sem,gS]
 refine yP (X:=Nat) (fun k=>[(1,.d (S sep)),(5,.d (S (Lib.join (ws.take k) sep))),(8,.d (.slice (ws.map S))),(9,.d (.int .i64 ws.length)),(10,.d (.int .i64 k))])
  (fun k G=>k≤ws.length∧LeH H G) (fun k=>ws.length - k) 0 _ ⟨by omega,.refl _⟩ (by simp -dsimp only [go_sem,gS]; simp [Lib.join_nil]) (.refl _) ?_
 rintro k G ⟨hk,gle⟩
 have hj:=uT (ws.take k) sep hs
 have hj2:=zOO ws k
 simp -dsimp only [go_sem,gS]
 refine zD (fun h2=>?_) (fun h2=>?_)
 ·have hkl:k < ws.length:=by have:=of_decide_eq_true h2; omega
  obtain ⟨x,hx⟩:∃ x,ws[k]?=some x:=⟨ws[k],List.getElem?_eq_getElem hkl⟩
  have hw:IntKind.i64.wrap ((k:Int)+1)=((k+1:Nat):Int):=by rw [qU (by omega) (by omega)]; omega
  have hxl:=zLO (List.mem_of_getElem? hx)
  have hsn:=zKM (ws.take k) x sep
  rw [←kK hx] at hsn
  simp -dsimp only [go_sem,gS,h2,hx]
  refine zD (fun h3=>?_) (fun h3=>?_)
  ·have hk0:0 < k:=by have:=of_decide_eq_true h3; omega
   rw [if_neg (by intro e; have:=congrArg List.length e; simp at this; rcases this with h | h; omega; subst h; simp at hkl)] at hsn
   simp -dsimp only [go_sem,gS,h3]
   refine zA (by simp only [List.size_toArray,List.length_cons,List.length_nil,List.length_append]; omega) ?_
   simp -dsimp only [go_sem,gS,zY]
   refine zA (by simp only [List.size_toArray,List.length_cons,List.length_nil,List.length_append]; omega) ?_
   simp -dsimp only [go_sem,gS,zY]
   simp -dsimp only [go_sem,gS,hw]
   refine zP (k+1) _ ⟨by omega,gle⟩ (by omega) (by simp -dsimp only [go_sem,gS,hsn]) (.refl _)
  ·have hk0:k=0:=by have:=of_decide_eq_false h3; omega
   subst hk0
   rw [if_pos (by simp)] at hsn
   simp -dsimp only [go_sem,gS,h3,List.take_zero,Lib.join_nil]
   refine zA (by simp only [List.size_toArray,List.length_cons,List.length_nil,List.length_append]; omega) ?_
   simp -dsimp only [go_sem,gS,zY]
   simp -dsimp only [go_sem,gS,hw]
   refine zP 1 _ ⟨by omega,gle⟩ (by omega) (by simp -dsimp only [go_sem,gS,hsn]) (.refl _)
 ·have hkl:k=ws.length:=by have:=of_decide_eq_false h2; omega
  subst hkl
  simp -dsimp only [go_sem,gS,h2,List.take_length]
  exact zB (G:=H) gle (zC hK)
theorem zAT (ws:List Str) (ht:tot ws≤268435456) (H:Heap) (K:A→Heap→Prop) (hK:K (.d (S (rowT ws))) H) :
  ACall Tryz.prog (zK eb) 80 [.d (.slice (ws.map S))] H K:=by
 have hj:=uT ws [44,32] (by decide)
 refine ACall.by mixed fn80 (by simp) ?_
 conv in s80=>cbv
 refine zG ?_
 simp -dsimp only [go_sem,gS]
 refine zD (fun h=>?_) (fun h=>?_)
 ·have h0:ws=[]:=by have:=of_decide_eq_true h; exact List.length_eq_zero_iff.1 (by omega)
  subst h0
  simp -dsimp only [go_sem,gS,h]
  exact zC hK
 ·have h0:ws≠[]:=by rintro rfl; have:=of_decide_eq_false h; simp at this
  rw [zEH h0] at hK
  simp -dsimp only [go_sem,gS,h]
  refine zDF ws [44,32] (by decide) ht _ _ ?_
  simp -dsimp only [go_sem,gS]
  refine zA (by simp only [List.size_toArray,List.length_cons,List.length_nil,List.length_append]; omega) ?_
  simp -dsimp only [go_sem,gS,zY]
  refine zA (by simp only [List.size_toArray,List.length_cons,List.length_nil,List.length_append]; omega) ?_
  simp -dsimp only [go_sem,gS,zY]
  exact zC hK
theorem zEL (H:Heap) (l:List Ty) (hl:l.length≤4194304)
  (ih:∀ t ∈ l,∀ (G:Heap) (K:A→Heap→Prop),K (.d (S t.t)) G→ACall Tryz.prog (zK eb) 114 [.d t.d] G K)
  (K:A→Heap→Prop) (hK:K (.d (.slice ((Ty.ts l).map S))) H):ACall Tryz.prog (zK eb) 81 [.d (.slice (Ty.ds l))] H K:=by
 rw [Ty.ts_map] at hK
 rw [Ty.ds_map]
 refine ACall.by mixed fn81 (by simp) ?_
 conv in s81=>cbv
 refine zG ?_
 simp -dsimp only [go_sem,gS]
 refine yO (fun b v hb hn hm hv=>?_)
 simp -dsimp only [go_sem,gS,hn,hm]
 refine yP (X:=Nat×A) (fun x=>[(3,x.2),(7,.d (.slice (l.map Ty.d))),(8,.d (.int .i64 l.length)),(9,.d (.int .i64 x.1))])
  (fun x G=>x.1≤l.length∧AccAt H 9 1 ((l.take x.1).map fun t=>S t.t) x.2 G) (fun x=>l.length - x.1) (0,.own b v) _ ⟨by simp,AccAt.own (zO hb (.refl H)) hb hv (zV ..)⟩ (by simp -dsimp only [go_sem,gS]; simp) (.refl _) ?_
 rintro ⟨k,a⟩ G ⟨hk,hacc⟩
 simp only at hk hacc
 simp -dsimp only [go_sem,gS]
 refine zD (fun h2=>?_) (fun h2=>?_)
 ·have hkl:k < l.length:=by have:=of_decide_eq_true h2; omega
  obtain ⟨x,hx⟩:∃ x,l[k]?=some x:=⟨l[k],List.getElem?_eq_getElem hkl⟩
  have hw:IntKind.i64.wrap ((k:Int)+1)=((k+1:Nat):Int):=by rw [qU (by omega) (by omega)]; omega
  have hmx:x ∈ l:=List.mem_of_getElem? hx
  obtain ⟨xv,xn,xa⟩:=x
  simp -dsimp only [go_sem,gS,h2,hx]
  refine zA rfl ?_
  simp -dsimp only [go_sem,gS,Ty.d,Ty.cs,D.cells]
  refine yL (fun b7 hb7 hn7 hm7=>?_)
  simp -dsimp only [go_sem,gS]
  refine ih (.mk xv xn xa) hmx _ _ ?_
  simp -dsimp only [go_sem,gS]
  rw [uF]
  refine yO (fun b9 v9 hb9 hn9 hm9 hv9=>?_)
  simp -dsimp only [go_sem,gS]
  refine jA ((hacc.up hb7).up hb9) (by simp only [List.length_map,List.length_take,List.length_cons,List.length_nil]; omega) (fun a' G' hacc'=>?_)
  simp -dsimp only [go_sem,gS,hw]
  refine zP (k+1,a') _ ⟨by simp only; omega, ?_⟩ (by simp only; omega) (by simp -dsimp only [go_sem,gS]) (.refl _)
  simp only [kK hx,List.map_append,List.map_cons,List.map_nil]
  exact hacc'
 ·have hkl:k=l.length:=by have:=of_decide_eq_false h2; omega
  subst hkl
  simp -dsimp only [go_sem,gS,h2]
  rw [List.take_length] at hacc
  exact zI7 hacc (by simpa [Function.comp_def] using hK)
theorem zCu (H:Heap) (l:List Tm) (hl:l.length≤4194304)
  (ih:∀ t ∈ l,∀ (G:Heap) (K:A→Heap→Prop),K (.d (S t.t)) G→ACall Tryz.prog (zK eb) 115 [.d t.d] G K)
  (K:A→Heap→Prop) (hK:K (.d (.slice ((Tm.ts l).map S))) H):ACall Tryz.prog (zK eb) 83 [.d (.slice (Tm.ds l))] H K:=by
 rw [Tm.ts_map] at hK
 rw [Tm.ds_map]
 refine ACall.by mixed fn83 (by simp) ?_
 conv in s83=>cbv
 refine zG ?_
 simp -dsimp only [go_sem,gS]
 refine yO (fun b v hb hn hm hv=>?_)
 simp -dsimp only [go_sem,gS,hn,hm]
 refine yP (X:=Nat×A) (fun x=>[(3,x.2),(7,.d (.slice (l.map Tm.d))),(8,.d (.int .i64 l.length)),(9,.d (.int .i64 x.1))])
  (fun x G=>x.1≤l.length∧AccAt H 9 1 ((l.take x.1).map fun t=>S t.t) x.2 G) (fun x=>l.length - x.1) (0,.own b v) _ ⟨by simp,AccAt.own (zO hb (.refl H)) hb hv (zV ..)⟩ (by simp -dsimp only [go_sem,gS]; simp) (.refl _) ?_
 rintro ⟨k,a⟩ G ⟨hk,hacc⟩
 simp only at hk hacc
 simp -dsimp only [go_sem,gS]
 refine zD (fun h2=>?_) (fun h2=>?_)
 ·have hkl:k < l.length:=by have:=of_decide_eq_true h2; omega
  obtain ⟨x,hx⟩:∃ x,l[k]?=some x:=⟨l[k],List.getElem?_eq_getElem hkl⟩
  have hw:IntKind.i64.wrap ((k:Int)+1)=((k+1:Nat):Int):=by rw [qU (by omega) (by omega)]; omega
  have hmx:x ∈ l:=List.mem_of_getElem? hx
  obtain ⟨xk,xn,xi,xa⟩:=x
  simp -dsimp only [go_sem,gS,h2,hx]
  refine zA rfl ?_
  simp -dsimp only [go_sem,gS,Tm.d,Tm.cs,D.cells]
  refine yL (fun b7 hb7 hn7 hm7=>?_)
  simp -dsimp only [go_sem,gS]
  refine ih (.mk xk xn xi xa) hmx _ _ ?_
  simp -dsimp only [go_sem,gS]
  rw [uF]
  refine yO (fun b9 v9 hb9 hn9 hm9 hv9=>?_)
  simp -dsimp only [go_sem,gS]
  refine jA ((hacc.up hb7).up hb9) (by simp only [List.length_map,List.length_take,List.length_cons,List.length_nil]; omega) (fun a' G' hacc'=>?_)
  simp -dsimp only [go_sem,gS,hw]
  refine zP (k+1,a') _ ⟨by simp only; omega, ?_⟩ (by simp only; omega) (by simp -dsimp only [go_sem,gS]) (.refl _)
  simp only [kK hx,List.map_append,List.map_cons,List.map_nil]
  exact hacc'
 ·have hkl:k=l.length:=by have:=of_decide_eq_false h2; omega
  subst hkl
  simp -dsimp only [go_sem,gS,h2]
  rw [List.take_length] at hacc
  exact zI7 hacc (by simpa [Function.comp_def] using hK)
theorem zGn:∀ (t:Ty) (_:D.sizes t.cs≤4194304) (H:Heap) (K:A→Heap→Prop) (_:K (.d (S t.t)) H),ACall Tryz.prog (zK eb) 114 [.d t.d] H K
 | .mk v n args,hs,H,K,hK=>by
  have hsz:n.length+1+D.sizes (Ty.ds args)≤4194304:=by simp only [Ty.cs,D.sizes,D.size,vY] at hs; omega
  have hl:args.length≤4194304:=by have:=D.length_le (Ty.ds args); rw [Ty.ds_map,List.length_map] at this; rw [Ty.ds_map] at hsz; omega
  have ht:=Ty.lens args
  have hr:=wO (Ty.ts args)
  rw [Ty.t] at hK
  refine ACall.by mixed zXq (by simp) ?_
  conv in s114=>cbv
  refine zG ?_
  simp -dsimp only [go_sem,gS,Ty.d,Ty.cs]
  refine yL (fun b1 hb1 hn1 hm1=>?_)
  simp -dsimp only [go_sem,gS]
  refine zEL _ args hl (fun t ht' G K hK=>zGn t ?_ G K hK) _ ?_
  ·have:=D.mem_le (l:=Ty.ds args) (d:=t.d) (by rw [Ty.ds_map]; exact List.mem_map_of_mem ht')
   simp only [Ty.d,D.size] at this
   omega
  ·simp -dsimp only [go_sem,gS]
   refine zAT _ (by omega) _ _ ?_
   simp -dsimp only [go_sem,gS]
   refine zA (by simp only [List.size_toArray,List.length_cons,List.length_nil,List.length_append]; omega) ?_
   simp -dsimp only [go_sem,gS,zY]
   exact zB (G:=H) (zO hb1 (.refl H)) (zC hK)
termination_by t=>SizeOf.sizeOf t
decreasing_by
 have:=List.sizeOf_lt_of_mem ht'
 simp
 omega
theorem zAU:∀ (t:Tm) (_:t.ok) (_:D.sizes t.cs≤4194304) (H:Heap) (K:A→Heap→Prop) (_:K (.d (S t.t)) H),ACall Tryz.prog (zK eb) 115 [.d t.d] H K
 | .mk k n i args,ho,hs,H,K,hK=>by
  have hsz:n.length+1+D.sizes (Tm.ds args)≤4194304:=by simp only [Tm.cs,D.sizes,D.size,vY] at hs; omega
  have hl:args.length≤4194304:=by have:=D.length_le (Tm.ds args); rw [Tm.ds_map,List.length_map] at this; rw [Tm.ds_map] at hsz; omega
  have ht:=Tm.lens args ho.2.2
  have hr:=wO (Tm.ts args)
  have hil:=zF2 ho.2.1
  have hio:=ho.2.1
  have hoa:=Tm.oks_mem ho.2.2
  have hsub:∀ t' ∈ args,D.sizes t'.cs≤4194304:=fun t' ht'=>by
   have:=D.mem_le (l:=Tm.ds args) (d:=t'.d) (by rw [Tm.ds_map]; exact List.mem_map_of_mem ht')
   simp only [Tm.d,D.size] at this
   omega
  rw [Tm.t] at hK
  refine ACall.by mixed zXr (by simp) ?_
  conv in s115=>cbv
  refine zG ?_
  simp -dsimp only [go_sem,gS,Tm.d,Tm.cs]
  refine yL (fun b1 hb1 hn1 hm1=>?_)
  simp -dsimp only [go_sem,gS]
  refine zD (fun h=>?_) (fun h=>?_)
  ·have hk:k=2:=of_decide_eq_true h
   rw [if_pos hk] at hK
   simp -dsimp only [go_sem,gS,h]
   refine zJB _ i hio.1 hio.2 _ ?_
   simp -dsimp only [go_sem,gS]
   refine zCu _ args hl (fun t ht' G K hK=>zAU t (hoa t ht') (hsub t ht') G K hK) _ ?_
   simp -dsimp only [go_sem,gS]
   refine zAT _ (by omega) _ _ ?_
   simp -dsimp only [go_sem,gS]
   refine zA (by simp only [List.size_toArray,List.length_cons,List.length_nil,List.length_append]; omega) ?_
   simp -dsimp only [go_sem,gS,zY]
   exact zB (G:=H) (zO hb1 (.refl H)) (zC hK)
  ·have hk:¬ k=2:=of_decide_eq_false h
   rw [if_neg hk] at hK
   simp -dsimp only [go_sem,gS,h]
   refine zCu _ args hl (fun t ht' G K hK=>zAU t (hoa t ht') (hsub t ht') G K hK) _ ?_
   simp -dsimp only [go_sem,gS]
   refine zAT _ (by omega) _ _ ?_
   simp -dsimp only [go_sem,gS]
   refine zA (by simp only [List.size_toArray,List.length_cons,List.length_nil,List.length_append]; omega) ?_
   simp -dsimp only [go_sem,gS,zY]
   exact zB (G:=H) (zO hb1 (.refl H)) (zC hK)
termination_by t=>SizeOf.sizeOf t
decreasing_by
 all_goals (
  have:=List.sizeOf_lt_of_mem ht'
  simp
  omega)
end Go.Aug.Prn

/- The reference's goals. -/
namespace Go.Aug.Prn
open Go.Proofs
set_option maxRecDepth 100000
set_option linter.unusedSimpArgs false
def rbr (k gk:Int):Bool:=if k=6 then gk == 6 else if k=5∨k=7∨k=9 then gk == 6 || gk == 5 else false
def Gl.rw (k:Int) (g:Gl):Str:=brT (rbr k g.kind) g.t
theorem Gl.rw_t (k:Int) (g:Gl) (h:rbr k g.kind=true):Gl.rw k g=40::(g.t++[41]):=by unfold Gl.rw; rw [h]; rfl
theorem Gl.rw_f (k:Int) (g:Gl) (h:rbr k g.kind=false):Gl.rw k g=g.t:=by unfold Gl.rw; rw [h]; rfl
theorem Gl.rw_w {k:Int} (h:k=5∨k=6∨k=7∨k=9) (l:List Gl):l.map (Gl.rw k)=Gl.ws k l:=by
 rw [Gl.ws_map]
 refine List.map_congr_left fun g _=>?_
 unfold Gl.rw Gl.w
 have:rbr k g.kind=loose k g.kind:=by
  unfold rbr loose
  rcases h with rfl | rfl | rfl | rfl <;> simp
 rw [this]
attribute [local irreducible] hid andK letA zR wN xX yH xR xE wR idxA ldV ldD addO xD appTo wF slA srcK nilQ retW gif sgd yT svc sops xQ yX aopO xT yU aBin aUn wK aLen zL yW zI yG xC yF yZ zJ zM yV zX yE xG xU frzM putE newK newV wP ACall xH wD zW sret cnd szs nilC yK zQ yA
variable {eb:EbG}
theorem zDz (k:Int) (g:Gl) (hg:g.ok) (hs:D.sizes g.cs≤4194304) (ih:∀ (G:Heap) (K:A→Heap→Prop),K (.d (S g.t)) G→ACall Tryz.prog (zK eb) 84 [.d g.d] G K)
  (H:Heap) (K:A→Heap→Prop) (hK:K (.d (S (Gl.rw k g))) H):ACall Tryz.prog (zK eb) 116 [.d (.int .i64 k),.d g.d] H K:=by
 have hl:=Gl.len g hg
 refine ACall.by mixed zXs (by simp) ?_
 conv in s116=>cbv
 refine zG ?_
 obtain ⟨gk,ak,an,ai,aa,bk,bn,bi,ba,n,ga,gs,he⟩:=Gl.open g
 have hd:g.d=.agg [.int .i64 gk,.int .i64 ak,S an,.int .i64 ai,.slice (Tm.ds aa),.int .i64 bk,S bn,.int .i64 bi,.slice (Tm.ds ba),S n,.slice (Tm.ds ga),.slice (Gl.ds gs)]:=by rw [he]; rfl
 have hkd:g.kind=gk:=by rw [he]; rfl
 simp -dsimp only [go_sem,gS,hd]
 refine yL (fun b1 hb1 hn1 hm1=>?_)
 simp -dsimp only [go_sem,gS]
 refine zD (fun h=>?_) (fun h=>?_)
 ·have h6:k=6:=of_decide_eq_true h
  simp -dsimp only [go_sem,gS,h]
  refine zD (fun h2=>?_) (fun h2=>?_)
  ·have hr:rbr k g.kind=true:=by rw [hkd,h6]; simpa [rbr] using h2
   rw [Gl.rw_t k g hr] at hK
   simp -dsimp only [go_sem,gS,h2]
   rw [←hd]
   refine ih _ _ ?_
   simp -dsimp only [go_sem,gS]
   refine zA (by simp only [List.size_toArray,List.length_cons,List.length_nil,List.length_append]; omega) ?_
   simp -dsimp only [go_sem,gS,zY]
   refine zA (by simp only [List.size_toArray,List.length_cons,List.length_nil,List.length_append]; omega) ?_
   simp -dsimp only [go_sem,gS,zY]
   exact zB (G:=H) (zO hb1 (.refl H)) (zC hK)
  ·have hr:rbr k g.kind=false:=by rw [hkd,h6]; simpa [rbr] using h2
   rw [Gl.rw_f k g hr] at hK
   simp -dsimp only [go_sem,gS,h2]
   rw [←hd]
   refine ih _ _ ?_
   simp -dsimp only [go_sem,gS]
   exact zB (G:=H) (zO hb1 (.refl H)) (zC hK)
 have k6:¬ k=6:=of_decide_eq_false h
 simp -dsimp only [go_sem,gS,h]
 refine zD (fun h=>?_) (fun h=>?_)
 ·have h5:k=5:=of_decide_eq_true h
  simp -dsimp only [go_sem,gS,h]
  refine zD (fun h2=>?_) (fun h2=>?_)
  ·have hr:rbr k g.kind=true:=by rw [hkd,h5]; have:=of_decide_eq_true h2; simp [rbr,this]
   rw [Gl.rw_t k g hr] at hK
   simp -dsimp only [go_sem,gS,h2]
   rw [←hd]
   refine ih _ _ ?_
   simp -dsimp only [go_sem,gS]
   refine zA (by simp only [List.size_toArray,List.length_cons,List.length_nil,List.length_append]; omega) ?_
   simp -dsimp only [go_sem,gS,zY]
   refine zA (by simp only [List.size_toArray,List.length_cons,List.length_nil,List.length_append]; omega) ?_
   simp -dsimp only [go_sem,gS,zY]
   exact zB (G:=H) (zO hb1 (.refl H)) (zC hK)
  ·have g6:¬ gk=6:=of_decide_eq_false h2
   simp -dsimp only [go_sem,gS,h2]
   refine zD (fun h2=>?_) (fun h2=>?_)
   ·have hr:rbr k g.kind=true:=by rw [hkd,h5]; have:=of_decide_eq_true h2; simp [rbr,this]
    rw [Gl.rw_t k g hr] at hK
    simp -dsimp only [go_sem,gS,h2]
    rw [←hd]
    refine ih _ _ ?_
    simp -dsimp only [go_sem,gS]
    refine zA (by simp only [List.size_toArray,List.length_cons,List.length_nil,List.length_append]; omega) ?_
    simp -dsimp only [go_sem,gS,zY]
    refine zA (by simp only [List.size_toArray,List.length_cons,List.length_nil,List.length_append]; omega) ?_
    simp -dsimp only [go_sem,gS,zY]
    exact zB (G:=H) (zO hb1 (.refl H)) (zC hK)
   ·have hr:rbr k g.kind=false:=by rw [hkd,h5]; have:=of_decide_eq_false h2; simp [rbr,this,g6]
    rw [Gl.rw_f k g hr] at hK
    simp -dsimp only [go_sem,gS,h2]
    rw [←hd]
    refine ih _ _ ?_
    simp -dsimp only [go_sem,gS]
    exact zB (G:=H) (zO hb1 (.refl H)) (zC hK)
 have k5:¬ k=5:=of_decide_eq_false h
 simp -dsimp only [go_sem,gS,h]
 refine zD (fun h=>?_) (fun h=>?_)
 ·have h5:k=7:=of_decide_eq_true h
  simp -dsimp only [go_sem,gS,h]
  refine zD (fun h2=>?_) (fun h2=>?_)
  ·have hr:rbr k g.kind=true:=by rw [hkd,h5]; have:=of_decide_eq_true h2; simp [rbr,this]
   rw [Gl.rw_t k g hr] at hK
   simp -dsimp only [go_sem,gS,h2]
   rw [←hd]
   refine ih _ _ ?_
   simp -dsimp only [go_sem,gS]
   refine zA (by simp only [List.size_toArray,List.length_cons,List.length_nil,List.length_append]; omega) ?_
   simp -dsimp only [go_sem,gS,zY]
   refine zA (by simp only [List.size_toArray,List.length_cons,List.length_nil,List.length_append]; omega) ?_
   simp -dsimp only [go_sem,gS,zY]
   exact zB (G:=H) (zO hb1 (.refl H)) (zC hK)
  ·have g6:¬ gk=6:=of_decide_eq_false h2
   simp -dsimp only [go_sem,gS,h2]
   refine zD (fun h2=>?_) (fun h2=>?_)
   ·have hr:rbr k g.kind=true:=by rw [hkd,h5]; have:=of_decide_eq_true h2; simp [rbr,this]
    rw [Gl.rw_t k g hr] at hK
    simp -dsimp only [go_sem,gS,h2]
    rw [←hd]
    refine ih _ _ ?_
    simp -dsimp only [go_sem,gS]
    refine zA (by simp only [List.size_toArray,List.length_cons,List.length_nil,List.length_append]; omega) ?_
    simp -dsimp only [go_sem,gS,zY]
    refine zA (by simp only [List.size_toArray,List.length_cons,List.length_nil,List.length_append]; omega) ?_
    simp -dsimp only [go_sem,gS,zY]
    exact zB (G:=H) (zO hb1 (.refl H)) (zC hK)
   ·have hr:rbr k g.kind=false:=by rw [hkd,h5]; have:=of_decide_eq_false h2; simp [rbr,this,g6]
    rw [Gl.rw_f k g hr] at hK
    simp -dsimp only [go_sem,gS,h2]
    rw [←hd]
    refine ih _ _ ?_
    simp -dsimp only [go_sem,gS]
    exact zB (G:=H) (zO hb1 (.refl H)) (zC hK)
 have k7:¬ k=7:=of_decide_eq_false h
 simp -dsimp only [go_sem,gS,h]
 refine zD (fun h=>?_) (fun h=>?_)
 ·have h5:k=9:=of_decide_eq_true h
  simp -dsimp only [go_sem,gS,h]
  refine zD (fun h2=>?_) (fun h2=>?_)
  ·have hr:rbr k g.kind=true:=by rw [hkd,h5]; have:=of_decide_eq_true h2; simp [rbr,this]
   rw [Gl.rw_t k g hr] at hK
   simp -dsimp only [go_sem,gS,h2]
   rw [←hd]
   refine ih _ _ ?_
   simp -dsimp only [go_sem,gS]
   refine zA (by simp only [List.size_toArray,List.length_cons,List.length_nil,List.length_append]; omega) ?_
   simp -dsimp only [go_sem,gS,zY]
   refine zA (by simp only [List.size_toArray,List.length_cons,List.length_nil,List.length_append]; omega) ?_
   simp -dsimp only [go_sem,gS,zY]
   exact zB (G:=H) (zO hb1 (.refl H)) (zC hK)
  ·have g6:¬ gk=6:=of_decide_eq_false h2
   simp -dsimp only [go_sem,gS,h2]
   refine zD (fun h2=>?_) (fun h2=>?_)
   ·have hr:rbr k g.kind=true:=by rw [hkd,h5]; have:=of_decide_eq_true h2; simp [rbr,this]
    rw [Gl.rw_t k g hr] at hK
    simp -dsimp only [go_sem,gS,h2]
    rw [←hd]
    refine ih _ _ ?_
    simp -dsimp only [go_sem,gS]
    refine zA (by simp only [List.size_toArray,List.length_cons,List.length_nil,List.length_append]; omega) ?_
    simp -dsimp only [go_sem,gS,zY]
    refine zA (by simp only [List.size_toArray,List.length_cons,List.length_nil,List.length_append]; omega) ?_
    simp -dsimp only [go_sem,gS,zY]
    exact zB (G:=H) (zO hb1 (.refl H)) (zC hK)
   ·have hr:rbr k g.kind=false:=by rw [hkd,h5]; have:=of_decide_eq_false h2; simp [rbr,this,g6]
    rw [Gl.rw_f k g hr] at hK
    simp -dsimp only [go_sem,gS,h2]
    rw [←hd]
    refine ih _ _ ?_
    simp -dsimp only [go_sem,gS]
    exact zB (G:=H) (zO hb1 (.refl H)) (zC hK)
 have k9:¬ k=9:=of_decide_eq_false h
 have hr:rbr k g.kind=false:=by rw [hkd]; simp [rbr,k6,k5,k7,k9]
 simp -dsimp only [go_sem,gS,h]
 rw [Gl.rw_f k g hr] at hK
 rw [←hd]
 refine ih _ _ ?_
 simp -dsimp only [go_sem,gS]
 exact zB (G:=H) (zO hb1 (.refl H)) (zC hK)
end Go.Aug.Prn

/- The reference's goals: Goal. -/
namespace Go.Aug.Prn
open Go.Proofs
set_option maxRecDepth 100000
set_option linter.unusedSimpArgs false
theorem zB4 {G H:Heap} {E:TypeId} {sz:Nat} {l:List D} {a:A} (h:AccAt G E sz l a H) (hl:l≠[]):∃ b v,a=.own b v:=by
 obtain ⟨_,⟨h0,_⟩ | ⟨b,v,rfl,_⟩⟩:=h
 ·exact (hl h0).elim
 ·exact ⟨b,v,rfl⟩
theorem zKo {G H:Heap} {E:TypeId} {sz:Nat} {l:List D} {b:Nat} {v:Value} (h:AccAt G E sz l (.own b v) H):G b=none∧H b=some (.arr E sz v l):=by
 obtain ⟨_,⟨_,h0⟩ | ⟨b',v',h1,h2,_,h3⟩⟩:=h
 ·cases h0
 ·cases h1; exact ⟨h2,h3⟩
theorem zO0 (ws:List Str) (i:Nat) (h:i < ws.length):(ws.map S)[i]?=some (S (ws.getD i [])):=by
 simp [List.getElem?_map,List.getD,List.getElem?_eq_getElem h]
attribute [local irreducible] hid andK letA zR wN xX yH xR xE wR idxA ldV ldD addO xD appTo wF slA srcK nilQ retW gif sgd yT svc sops xQ yX aopO xT yU aBin aUn wK aLen zL yW zI yG xC yF yZ zJ zM yV zX yE xG xU frzM putE newK newV wP ACall xH wD zW sret cnd szs nilC yK zQ yA
variable {eb:EbG}
theorem zI8:∀ (g:Gl) (_:g.ok) (_:D.sizes g.cs≤4194304) (H:Heap) (K:A→Heap→Prop) (_:K (.d (S g.t)) H),ACall Tryz.prog (zK eb) 84 [.d g.d] H K
 | .mk gk a b n ga gs,ho,hs,H,K,hK=>by
  obtain ⟨g,he⟩:∃ g,g=Gl.mk gk a b n ga gs:=⟨_,rfl⟩
  have hlen:=Gl.len _ ho
  have hgs:Gl.oks gs:=ho.2.2.2.2
  have hes:D.sizes (Gl.cs (.mk gk a b n ga gs))=1+(D.sizes a.cs+(D.sizes b.cs+(n.length+1+(D.sizes (Tm.ds ga)+1+(D.sizes (Gl.ds gs)+1))))):=by
   simp only [Gl.cs,D.sizes,D.sizes_append,D.size,vY]
  have hsz:D.sizes (Gl.ds gs)≤4194304:=by omega
  have has:D.sizes a.cs≤4194304:=by omega
  have hbs:D.sizes b.cs≤4194304:=by omega
  have hgz:D.sizes (Tm.ds ga)≤4194304:=by omega
  have hnz:n.length≤4194304:=by omega
  have hal:=a.len ho.2.1
  have hbl:=b.len ho.2.2.1
  have hga:ga.length≤4194304:=by have:=D.length_le (Tm.ds ga); rw [Tm.ds_map,List.length_map] at this; rw [Tm.ds_map] at hes; omega
  have hgt:=Tm.lens ga ho.2.2.2.1
  have hgr:=wO (Tm.ts ga)
  have hgo:=Tm.oks_mem ho.2.2.2.1
  have hgsub:∀ t' ∈ ga,D.sizes t'.cs≤4194304:=fun t' ht'=>by
   have:=D.mem_le (l:=Tm.ds ga) (d:=t'.d) (by rw [Tm.ds_map]; exact List.mem_map_of_mem ht')
   simp only [Tm.d,D.size] at this
   omega
  have hwl:=Gl.lens gs hgs gk
  have hw2:=zD8 (Gl.ws gk gs)
  have hgl:gs.length≤4194304:=by have:=D.length_le (Gl.ds gs); rw [Gl.ds_map,List.length_map] at this; rw [Gl.ds_map] at hsz; omega
  have hgz':∀ g' ∈ gs,D.sizes g'.cs≤4194304:=fun g' hg'=>by
   have:=D.mem_le (l:=Gl.ds gs) (d:=g'.d) (by rw [Gl.ds_map]; exact List.mem_map_of_mem hg')
   simp only [Gl.d,D.size] at this
   omega
  have ih:zMu eb 84 gs:=fun g' hg' G K hK=>zI8 g' (Gl.oks_mem hgs g' hg') (hgz' g' hg') G K hK
  have hoa:=ho.2.1
  have hob:=ho.2.2.1
  rw [←he] at ho hs
  refine ACall.by mixed fn84 (by simp) ?_
  conv in s84=>cbv
  refine zG ?_
  obtain ⟨ak,an,ai,aa⟩:=a
  obtain ⟨bk,bn,bi,ba⟩:=b
  have hd:g.d=.agg [.int .i64 gk,.int .i64 ak,S an,.int .i64 ai,.slice (Tm.ds aa),.int .i64 bk,S bn,.int .i64 bi,.slice (Tm.ds ba),S n,.slice (Tm.ds ga),.slice (gs.map Gl.d)]:=by rw [he,←Gl.ds_map]; rfl
  have hda:Tm.d (.mk ak an ai aa)=.agg [.int .i64 ak,S an,.int .i64 ai,.slice (Tm.ds aa)]:=rfl
  have hdb:Tm.d (.mk bk bn bi ba)=.agg [.int .i64 bk,S bn,.int .i64 bi,.slice (Tm.ds ba)]:=rfl
  rw [←he,hd]
  unfold Gl.t at hK
  simp -dsimp only [go_sem,gS]
  refine yL (fun b1 hb1 hn1 hm1=>?_)
  simp -dsimp only [go_sem,gS]
  refine yO (fun b3 v3 hb3 hn3 hm3 hv3=>?_)
  generalize hHB:upd H b1 _=HB at hb3 hn3 hm3 ⊢
  have g1:=congrFun hHB b1
  rw [zV] at g1
  have g1:=g1.symm
  have hle:LeH H HB:=by rw [←hHB]; exact zO hb1 (.refl H)
  have e1:eqn b1 b3=false:=hn3 b1 (by rw [g1]; rfl)
  simp -dsimp only [go_sem,gS,e1,g1,hn3,hm3]
  refine yP (X:=Nat×A) (fun x=>[(1,.ref b1 0),(3,x.2),(10,.d (.slice (gs.map Gl.d))),(11,.d (.int .i64 gs.length)),(12,.d (.int .i64 x.1))])
   (fun x G=>x.1≤gs.length∧AccAt HB 9 1 ((gs.take x.1).map fun t=>S (Gl.rw gk t)) x.2 G∧∃ b v,x.2=.own b v) (fun x=>gs.length - x.1) (0,.own b3 v3) _ ⟨by simp,AccAt.own (zO hb3 (.refl HB)) hb3 hv3 (zV ..),_,_,rfl⟩ (by simp -dsimp only [go_sem,gS]; simp) (.refl _) ?_
  rintro ⟨k,acc⟩ G ⟨hk,hacc,hown⟩
  simp only at hk hacc hown
  have g1':=hacc.le b1 _ g1
  simp -dsimp only [go_sem,gS]
  refine zD (fun h2=>?_) (fun h2=>?_)
  ·have hkl:k < gs.length:=by have:=of_decide_eq_true h2; omega
   obtain ⟨x,hx⟩:∃ x,gs[k]?=some x:=⟨gs[k],List.getElem?_eq_getElem hkl⟩
   have hw:IntKind.i64.wrap ((k:Int)+1)=((k+1:Nat):Int):=by rw [qU (by omega) (by omega)]; omega
   have hmx:x ∈ gs:=List.mem_of_getElem? hx
   obtain ⟨x1,x2,x3,x4,x5,x6,x7,x8,x9,x10,x11,x12,hdx⟩:=Gl.dopen x
   simp -dsimp only [go_sem,gS,h2,hx]
   refine zA (by rw [hdx]; rfl) ?_
   simp -dsimp only [go_sem,gS,hdx,D.cells]
   refine yL (fun b7 hb7 hn7 hm7=>?_)
   have e71:eqn b1 b7=false:=hn7 b1 (by rw [g1']; rfl)
   simp -dsimp only [go_sem,gS,e71,g1']
   rw [←hdx]
   rw [uF]
   refine zDz gk x (Gl.oks_mem hgs x hmx) (hgz' x hmx) (ih x hmx) _ _ ?_
   simp -dsimp only [go_sem,gS]
   refine yO (fun b9 v9 hb9 hn9 hm9 hv9=>?_)
   simp -dsimp only [go_sem,gS]
   refine jA ((hacc.up hb7).up hb9) (by simp only [List.length_map,List.length_take,List.length_cons,List.length_nil]; omega) (fun a' G' hacc'=>?_)
   simp -dsimp only [go_sem,gS,hw]
   refine zP (k+1,a') _ ⟨by simp only; omega, ?_,zB4 hacc' (by simp)⟩ (by simp only; omega) (by simp -dsimp only [go_sem,gS]) (.refl _)
   simp only [kK hx,List.map_append,List.map_cons,List.map_nil]
   exact hacc'
  have hkl:k=gs.length:=by have:=of_decide_eq_false h2; omega
  subst hkl
  obtain ⟨bo,vo,rfl⟩:=hown
  rw [List.take_length] at hacc
  obtain ⟨ho1,ho2⟩:=zKo hacc
  obtain ⟨ws,hws⟩:∃ ws,ws=gs.map (Gl.rw gk):=⟨_,rfl⟩
  have hwn:ws.length=gs.length:=by rw [hws,List.length_map]
  have ho2:G bo=some (.arr 9 1 vo (ws.map S)):=by rw [ho2,hws,List.map_map]; rfl
  have hleG:LeH H G:=hle.trans hacc.le
  simp -dsimp only [go_sem,gS,h2,ho2]
  refine (fun (rest:∀ (s0 s1:Str),s0=ws.getD 0 []→s1=ws.getD 1 []→(?T:Str→Str→Prop) s0 s1)=>?main) ?rest
  case main =>
   refine zD (fun h3=>?_) (fun h3=>?_)
   ·have hn0:0 < ws.length:=by have:=of_decide_eq_true h3; omega
    simp -dsimp only [go_sem,gS,h3,ho2]
    refine zA (by omega) ?_
    simp -dsimp only [go_sem,gS,ho2,zO0 ws 0 hn0,Int.reduceToNat]
    refine zD (fun h4=>?_) (fun h4=>?_)
    ·have hn1:1 < ws.length:=by have:=of_decide_eq_true h4; omega
     simp -dsimp only [go_sem,gS,h4,ho2]
     refine zA (by omega) ?_
     simp -dsimp only [go_sem,gS,ho2,zO0 ws 1 hn1,g1',Int.reduceToNat]
     generalize ws.getD 0 []=s0 at rest ⊢
     generalize ws.getD 1 []=s1 at rest ⊢
     exact rest s0 s1 rfl rfl
    ·have hn1:ws.length≤1:=by have:=of_decide_eq_false h4; omega
     simp -dsimp only [go_sem,gS,h4,ho2,g1']
     exact rest (ws.getD 0 []) [] rfl (by simp [List.getD,hn1])
   ·have hn0:ws.length=0:=by have:=of_decide_eq_false h3; omega
    simp -dsimp only [go_sem,gS,h3,ho2]
    refine zD (fun h4=>?_) (fun h4=>?_)
    ·have:=of_decide_eq_true h4; omega
    ·simp -dsimp only [go_sem,gS,h4,ho2,g1']
     exact rest [] [] (by simp [List.getD,hn0]) (by simp [List.getD,hn0])
  case rest =>
   rintro s0 s1 hs0 hs1
   refine zD (fun h1=>?_) (fun h1=>?_)
   ·have hk:gk=1:=of_decide_eq_true h1
    rw [if_pos hk] at hK
    simp -dsimp only [go_sem,gS,h1]
    exact zB hleG (zC hK)
   have k1:¬ gk=1:=of_decide_eq_false h1
   rw [if_neg k1] at hK
   simp -dsimp only [go_sem,gS,h1]
   refine zD (fun h1=>?_) (fun h1=>?_)
   ·have hk:gk=2:=of_decide_eq_true h1
    rw [if_pos hk] at hK
    simp -dsimp only [go_sem,gS,h1]
    exact zB hleG (zC hK)
   have k1:¬ gk=2:=of_decide_eq_false h1
   rw [if_neg k1] at hK
   simp -dsimp only [go_sem,gS,h1]
   refine zD (fun h1=>?_) (fun h1=>?_)
   ·have hk:gk=3:=of_decide_eq_true h1
    rw [if_pos hk] at hK
    simp -dsimp only [go_sem,gS,h1,g1']
    rw [←hda]
    refine zAU _ hoa has _ _ ?_
    simp -dsimp only [go_sem,gS,hda,hdb,g1']
    refine zA (by simp only [List.size_toArray,List.length_cons,List.length_nil,List.length_append]; omega) ?_
    simp -dsimp only [go_sem,gS,zY]
    rw [←hdb]
    refine zAU _ hob hbs _ _ ?_
    simp -dsimp only [go_sem,gS,hda,hdb,g1']
    refine zA (by simp only [List.size_toArray,List.length_cons,List.length_nil,List.length_append]; omega) ?_
    simp -dsimp only [go_sem,gS,zY]
    exact zB hleG (zC hK)
   have k1:¬ gk=3:=of_decide_eq_false h1
   rw [if_neg k1] at hK
   simp -dsimp only [go_sem,gS,h1]
   refine zD (fun h1=>?_) (fun h1=>?_)
   ·have hk:gk=4:=of_decide_eq_true h1
    rw [if_pos hk] at hK
    simp -dsimp only [go_sem,gS,h1,g1']
    refine zCu _ ga hga (fun t ht' G K hK=>zAU t (hgo t ht') (hgsub t ht') G K hK) _ ?_
    simp -dsimp only [go_sem,gS,g1']
    refine zAT _ (by omega) _ _ ?_
    simp -dsimp only [go_sem,gS,g1']
    refine zA (by simp only [List.size_toArray,List.length_cons,List.length_nil,List.length_append]; omega) ?_
    simp -dsimp only [go_sem,gS,zY]
    exact zB hleG (zC hK)
   have k1:¬ gk=4:=of_decide_eq_false h1
   rw [if_neg k1] at hK
   simp -dsimp only [go_sem,gS,h1]
   refine zD (fun h1=>?_) (fun h1=>?_)
   ·have hk:gk=5:=of_decide_eq_true h1
    rw [if_pos hk] at hK
    have e:ws=Gl.ws gk gs:=by rw [hws]; exact Gl.rw_w (.inl hk) gs
    rw [←e] at hK hwl
    simp -dsimp only [go_sem,gS,h1]
    refine ACall.frz [true,false] ?_
    simp -dsimp only [go_sem,gS,ho2]
    refine zDF ws [44,32] (by decide) (by omega) _ _ ?_
    simp -dsimp only [go_sem,gS]
    exact zB (zO (hle.free ho1) hleG) (zC hK)
   have k1:¬ gk=5:=of_decide_eq_false h1
   rw [if_neg k1] at hK
   simp -dsimp only [go_sem,gS,h1]
   refine zD (fun h1=>?_) (fun h1=>?_)
   ·have hk:gk=6:=of_decide_eq_true h1
    rw [if_pos hk] at hK
    have e:ws=Gl.ws gk gs:=by rw [hws]; exact Gl.rw_w (.inr (.inl hk)) gs
    rw [←e] at hK hwl
    simp -dsimp only [go_sem,gS,h1]
    refine ACall.frz [true,false] ?_
    simp -dsimp only [go_sem,gS,ho2]
    refine zDF ws [32,59,32] (by decide) (by omega) _ _ ?_
    simp -dsimp only [go_sem,gS]
    exact zB (zO (hle.free ho1) hleG) (zC hK)
   have k1:¬ gk=6:=of_decide_eq_false h1
   rw [if_neg k1] at hK
   simp -dsimp only [go_sem,gS,h1]
   refine zD (fun h1=>?_) (fun h1=>?_)
   ·have hk:gk=7:=of_decide_eq_true h1
    rw [if_pos hk] at hK
    have e:ws=Gl.ws gk gs:=by rw [hws]; exact Gl.rw_w (.inr (.inr (.inl hk))) gs
    rw [←e,←hs0] at hK
    rw [←e,←hs0] at hw2
    rw [←e] at hwl
    simp -dsimp only [go_sem,gS,h1]
    refine zA (by simp only [List.size_toArray,List.length_cons,List.length_nil,List.length_append]; omega) ?_
    simp -dsimp only [go_sem,gS,zY]
    exact zB hleG (zC hK)
   have k1:¬ gk=7:=of_decide_eq_false h1
   rw [if_neg k1] at hK
   simp -dsimp only [go_sem,gS,h1]
   refine zD (fun h1=>?_) (fun h1=>?_)
   ·have hk:gk=8:=of_decide_eq_true h1
    rw [if_pos hk] at hK
    simp -dsimp only [go_sem,gS,h1,g1']
    rw [←hda]
    refine zAU _ hoa has _ _ ?_
    simp -dsimp only [go_sem,gS]
    refine zA (by simp only [List.size_toArray,List.length_cons,List.length_nil,List.length_append]; omega) ?_
    simp -dsimp only [go_sem,gS,zY]
    exact zB hleG (zC hK)
   have k1:¬ gk=8:=of_decide_eq_false h1
   rw [if_neg k1] at hK
   simp -dsimp only [go_sem,gS,h1]
   refine zD (fun h1=>?_) (fun h1=>?_)
   ·have hk:gk=9:=of_decide_eq_true h1
    rw [if_pos hk] at hK
    have e:ws=Gl.ws gk gs:=by rw [hws]; exact Gl.rw_w (.inr (.inr (.inr hk))) gs
    rw [←e,←hs0,←hs1] at hK
    rw [←e,←hs0,←hs1] at hw2
    rw [←e] at hwl
    simp -dsimp only [go_sem,gS,h1,g1']
    refine zA (by simp only [List.size_toArray,List.length_cons,List.length_nil,List.length_append]; omega) ?_
    simp -dsimp only [go_sem,gS,zY]
    refine zA (by simp only [List.size_toArray,List.length_cons,List.length_nil,List.length_append]; omega) ?_
    simp -dsimp only [go_sem,gS,zY]
    simp -dsimp only [go_sem,gS,g1']
    refine zA (by simp only [List.size_toArray,List.length_cons,List.length_nil,List.length_append]; omega) ?_
    simp -dsimp only [go_sem,gS,zY]
    refine zA (by simp only [List.size_toArray,List.length_cons,List.length_nil,List.length_append]; omega) ?_
    simp -dsimp only [go_sem,gS,zY]
    refine zA (by simp only [List.size_toArray,List.length_cons,List.length_nil,List.length_append]; omega) ?_
    simp -dsimp only [go_sem,gS,zY]
    exact zB hleG (zC hK)
   have k1:¬ gk=9:=of_decide_eq_false h1
   rw [if_neg k1] at hK
   simp -dsimp only [go_sem,gS,h1]
   exact zB hleG (zC hK)
termination_by g=>SizeOf.sizeOf g
decreasing_by
 all_goals (
  have:=List.sizeOf_lt_of_mem hg'
  simp
  omega)
end Go.Aug.Prn

/- The reference's items. -/
namespace Go.Aug.Prn
open Go.Proofs
set_option maxRecDepth 100000
set_option linter.unusedSimpArgs false
attribute [local irreducible] hid andK letA zR wN xX yH xR xE wR idxA ldV ldD addO xD appTo wF slA srcK nilQ retW gif sgd yT svc sops xQ yX aopO xT yU aBin aUn wK aLen zL yW zI yG xC yF yZ zJ zM yV zX yE xG xU frzM putE newK newV wP ACall xH wD zW sret cnd szs nilC yK zQ yA
variable {eb:EbG}
theorem ritem_ok (i:It) (ho:i.ok) (hs:D.sizes i.cs≤4194304) (H:Heap) (K:A→Heap→Prop) (hK:K (.d (S i.t)) H):ACall Tryz.prog (zK eb) 35 [.d i.d] H K:=by
 obtain ⟨ik,iname,ivars,ictors,itypes,iins,idet,iargs,g⟩:=i
 obtain ⟨gk,ak,an,ai,aa,bk,bn,bi,ba,n,ga,gs,he⟩:=Gl.open g
 have hd:g.d=.agg [.int .i64 gk,.int .i64 ak,S an,.int .i64 ai,.slice (Tm.ds aa),.int .i64 bk,S bn,.int .i64 bi,.slice (Tm.ds ba),S n,.slice (Tm.ds ga),.slice (Gl.ds gs)]:=by rw [he]; rfl
 have hid':It.d ⟨ik,iname,ivars,ictors,itypes,iins,idet,iargs,g⟩=.agg [.int .i64 ik,S iname,.slice (ivars.map S),.slice (ictors.map Ct.d),.slice (Ty.ds itypes),.slice (iins.map .bool),.int .i64 idet,.slice (Tm.ds iargs),.int .i64 gk,.int .i64 ak,S an,.int .i64 ai,.slice (Tm.ds aa),.int .i64 bk,S bn,.int .i64 bi,.slice (Tm.ds ba),S n,.slice (Tm.ds ga),.slice (Gl.ds gs)]:=by rw [he]; rfl
 have hgk:g.kind=gk:=by rw [he]; rfl
 have hsz:D.sizes (It.cs ⟨ik,iname,ivars,ictors,itypes,iins,idet,iargs,g⟩)=1+(iname.length+1+(D.sizes (ivars.map S)+1+(D.sizes (ictors.map Ct.d)+1+(D.sizes (Ty.ds itypes)+1+(D.sizes (iins.map .bool)+1+(1+(D.sizes (Tm.ds iargs)+1+D.sizes g.cs))))))):=by
  simp only [It.cs,D.sizes,D.size,vY]
 rw [hsz] at hs
 have hcl:ictors.length≤4194304:=by have:=D.length_le (ictors.map Ct.d); rw [List.length_map] at this; omega
 have hvl:ivars.length≤4194304:=by have:=D.length_le (ivars.map S); rw [List.length_map] at this; omega
 have htl:itypes.length≤4194304:=by have:=D.length_le (Ty.ds itypes); rw [Ty.ds_map,List.length_map] at this; rw [Ty.ds_map] at hs; omega
 have hal:iargs.length≤4194304:=by have:=D.length_le (Tm.ds iargs); rw [Tm.ds_map,List.length_map] at this; rw [Tm.ds_map] at hs; omega
 have hil:iins.length≤4194304:=by have:=D.length_le (iins.map D.bool); rw [List.length_map] at this; omega
 have hvt:=zDK ivars
 have hvr:=wO ivars
 have hit:=zDN iins
 have hir:=wO (iins.map wayT)
 have htt:=Ty.lens itypes
 have htr:=wO (Ty.ts itypes)
 have hat:=Tm.lens iargs ho.1
 have har:=wO (Tm.ts iargs)
 have hct:=Ct.lens ictors
 have hcj:=uT (ictors.map Ct.t) [32,124,32] (by decide)
 have hdl:=zFU idet
 have hgl:=Gl.len g ho.2
 have htsub:∀ t' ∈ itypes,D.sizes t'.cs≤4194304:=fun t' ht'=>by
  have:=D.mem_le (l:=Ty.ds itypes) (d:=t'.d) (by rw [Ty.ds_map]; exact List.mem_map_of_mem ht')
  simp only [Ty.d,D.size] at this
  omega
 have hasub:∀ t' ∈ iargs,D.sizes t'.cs≤4194304:=fun t' ht'=>by
  have:=D.mem_le (l:=Tm.ds iargs) (d:=t'.d) (by rw [Tm.ds_map]; exact List.mem_map_of_mem ht')
  simp only [Tm.d,D.size] at this
  omega
 have hao:=Tm.oks_mem ho.1
 have hgo:=ho.2
 refine ACall.by mixed fn35 (by simp) ?_
 conv in s35=>cbv
 refine zG ?_
 rw [hid']
 simp -dsimp only [go_sem,gS]
 refine yL (fun b1 hb1 hn1 hm1=>?_)
 simp -dsimp only [go_sem,gS]
 refine zD (fun h=>?_) (fun h=>?_)
 ·have hk:ik=1:=of_decide_eq_true h
  simp -dsimp only [go_sem,gS,h]
  refine yO (fun b3 v3 hb3 hn3 hm3 hv3=>?_)
  generalize hHB:upd H b1 _=HB at hb3 hn3 hm3 ⊢
  have g1:=congrFun hHB b1
  rw [zV] at g1
  have g1:=g1.symm
  have hle:LeH H HB:=by rw [←hHB]; exact zO hb1 (.refl H)
  have e1:eqn b1 b3=false:=hn3 b1 (by rw [g1]; rfl)
  simp -dsimp only [go_sem,gS,e1,g1,hn3,hm3]
  refine yP (X:=Nat×A) (fun x=>[(1,.ref b1 0),(4,x.2),(17,.d (.slice (ictors.map Ct.d))),(18,.d (.int .i64 ictors.length)),(19,.d (.int .i64 x.1))])
   (fun x G=>x.1≤ictors.length∧AccAt HB 9 1 ((ictors.take x.1).map fun t=>S (Ct.t t)) x.2 G∧∃ b v,x.2=.own b v) (fun x=>ictors.length - x.1) (0,.own b3 v3) _ ⟨by simp,AccAt.own (zO hb3 (.refl HB)) hb3 hv3 (zV ..),_,_,rfl⟩ (by simp -dsimp only [go_sem,gS]; simp) (.refl _) ?_
  rintro ⟨k,acc⟩ G ⟨hkk,hacc,hown⟩
  simp only at hkk hacc hown
  have g1':=hacc.le b1 _ g1
  simp -dsimp only [go_sem,gS]
  refine zD (fun h2=>?_) (fun h2=>?_)
  ·have hkl:k < ictors.length:=by have:=of_decide_eq_true h2; omega
   obtain ⟨x,hx⟩:∃ x,ictors[k]?=some x:=⟨ictors[k],List.getElem?_eq_getElem hkl⟩
   have hw:IntKind.i64.wrap ((k:Int)+1)=((k+1:Nat):Int):=by rw [qU (by omega) (by omega)]; omega
   have hmx:x ∈ ictors:=List.mem_of_getElem? hx
   have hxs:=D.mem_le (l:=ictors.map Ct.d) (d:=x.d) (List.mem_map_of_mem hmx)
   obtain ⟨xn,xa⟩:=x
   simp only [Ct.d,Ct.cs,D.size,D.sizes,vY] at hxs
   have hxl:xa.length≤4194304:=by have:=D.length_le (Ty.ds xa); rw [Ty.ds_map,List.length_map] at this; rw [Ty.ds_map] at hxs; omega
   have hxt:=Ty.lens xa
   have hxr:=wO (Ty.ts xa)
   have hxsub:∀ t' ∈ xa,D.sizes t'.cs≤4194304:=fun t' ht'=>by
    have:=D.mem_le (l:=Ty.ds xa) (d:=t'.d) (by rw [Ty.ds_map]; exact List.mem_map_of_mem ht')
    simp only [Ty.d,D.size] at this
    omega
   simp -dsimp only [go_sem,gS,h2,hx]
   refine zA rfl ?_
   simp -dsimp only [go_sem,gS,Ct.d,Ct.cs,D.cells]
   refine yL (fun b7 hb7 hn7 hm7=>?_)
   simp -dsimp only [go_sem,gS]
   rw [uF]
   refine zEL _ xa hxl (fun t ht' G K hK=>zGn t (hxsub t ht') G K hK) _ ?_
   simp -dsimp only [go_sem,gS]
   refine zAT _ (by omega) _ _ ?_
   simp -dsimp only [go_sem,gS]
   refine zA (by simp only [List.size_toArray,List.length_cons,List.length_nil,List.length_append]; omega) ?_
   simp -dsimp only [go_sem,gS,zY]
   refine yO (fun b9 v9 hb9 hn9 hm9 hv9=>?_)
   simp -dsimp only [go_sem,gS]
   refine jA ((hacc.up hb7).up hb9) (by simp only [List.length_map,List.length_take,List.length_cons,List.length_nil]; omega) (fun a' G' hacc'=>?_)
   simp -dsimp only [go_sem,gS,hw]
   refine zP (k+1,a') _ ⟨by simp only; omega, ?_,zB4 hacc' (by simp)⟩ (by simp only; omega) (by simp -dsimp only [go_sem,gS]) (.refl _)
   simp only [kK hx,List.map_append,List.map_cons,List.map_nil]
   exact hacc'
  have hkl:k=ictors.length:=by have:=of_decide_eq_false h2; omega
  subst hkl
  obtain ⟨bo,vo,rfl⟩:=hown
  rw [List.take_length] at hacc
  obtain ⟨ho1,ho2⟩:=zKo hacc
  have ho2:G bo=some (.arr 9 1 vo ((ictors.map Ct.t).map S)):=by rw [ho2,List.map_map]; rfl
  have hleG:LeH H G:=hle.trans hacc.le
  simp -dsimp only [go_sem,gS,h2,ho2,g1']
  have e1o:eqn b1 bo=false:=zA5 (by rintro rfl; rw [g1'] at ho2; cases ho2)
  refine zA (by simp only [List.size_toArray,List.length_cons,List.length_nil,List.length_append]; omega) ?_
  simp -dsimp only [go_sem,gS,zY]
  simp -dsimp only [go_sem,gS,g1']
  refine zAT ivars (by omega) _ _ ?_
  simp -dsimp only [go_sem,gS,g1',ho2]
  refine zA (by simp only [List.size_toArray,List.length_cons,List.length_nil,List.length_append]; omega) ?_
  simp -dsimp only [go_sem,gS,zY]
  refine zA (by simp only [List.size_toArray,List.length_cons,List.length_nil,List.length_append]; omega) ?_
  simp -dsimp only [go_sem,gS,zY]
  refine ACall.frz [true,false] ?_
  simp -dsimp only [go_sem,gS,ho2]
  refine zDF (ictors.map Ct.t) [32,124,32] (by decide) (by omega) _ _ ?_
  simp -dsimp only [go_sem,gS,g1',e1o]
  refine zA (by simp only [List.size_toArray,List.length_cons,List.length_nil,List.length_append]; omega) ?_
  simp -dsimp only [go_sem,gS,zY]
  refine zA (by simp only [List.size_toArray,List.length_cons,List.length_nil,List.length_append]; omega) ?_
  simp -dsimp only [go_sem,gS,zY]
  exact zB (zO (hle.free ho1) hleG) (zC (by simpa only [It.t,It.t0,hk,if_true,ctorsT,List.cons_append,List.nil_append,List.append_assoc] using hK))
 have k1:¬ ik=1:=of_decide_eq_false h
 simp -dsimp only [go_sem,gS,h]
 refine zD (fun h=>?_) (fun h=>?_)
 ·have hk:ik=2:=of_decide_eq_true h
  simp -dsimp only [go_sem,gS,h]
  refine zA (by simp only [List.size_toArray,List.length_cons,List.length_nil,List.length_append]; omega) ?_
  simp -dsimp only [go_sem,gS,zY]
  refine zEL _ itypes htl (fun t ht' G K hK=>zGn t (htsub t ht') G K hK) _ ?_
  simp -dsimp only [go_sem,gS]
  refine zAT _ (by omega) _ _ ?_
  simp -dsimp only [go_sem,gS]
  refine zA (by simp only [List.size_toArray,List.length_cons,List.length_nil,List.length_append]; omega) ?_
  simp -dsimp only [go_sem,gS,zY]
  refine zA (by simp only [List.size_toArray,List.length_cons,List.length_nil,List.length_append]; omega) ?_
  simp -dsimp only [go_sem,gS,zY]
  exact zB (G:=H) (zO hb1 (.refl H)) (zC (by simpa only [It.t,It.t0,hk,if_neg (show ¬ (2:Int)=1 by decide),if_true,List.cons_append,List.nil_append,List.append_assoc] using hK))
 have k2:¬ ik=2:=of_decide_eq_false h
 simp -dsimp only [go_sem,gS,h]
 refine zD (fun h=>?_) (fun h=>?_)
 ·have hk:ik=3:=of_decide_eq_true h
  simp -dsimp only [go_sem,gS,h]
  refine yO (fun b3 v3 hb3 hn3 hm3 hv3=>?_)
  generalize hHB:upd H b1 _=HB at hb3 hn3 hm3 ⊢
  have g1:=congrFun hHB b1
  rw [zV] at g1
  have g1:=g1.symm
  have hle:LeH H HB:=by rw [←hHB]; exact zO hb1 (.refl H)
  have e1:eqn b1 b3=false:=hn3 b1 (by rw [g1]; rfl)
  simp -dsimp only [go_sem,gS,e1,g1,hn3,hm3]
  refine yP (X:=Nat×A) (fun x=>[(1,.ref b1 0),(7,x.2),(59,.d (.slice (iins.map .bool))),(60,.d (.int .i64 iins.length)),(61,.d (.int .i64 x.1))])
   (fun x G=>x.1≤iins.length∧AccAt HB 9 1 ((iins.take x.1).map fun t=>S (wayT t)) x.2 G∧∃ b v,x.2=.own b v) (fun x=>iins.length - x.1) (0,.own b3 v3) _ ⟨by simp,AccAt.own (zO hb3 (.refl HB)) hb3 hv3 (zV ..),_,_,rfl⟩ (by simp -dsimp only [go_sem,gS]; simp) (.refl _) ?_
  rintro ⟨k,acc⟩ G ⟨hkk,hacc,hown⟩
  simp only at hkk hacc hown
  have g1':=hacc.le b1 _ g1
  simp -dsimp only [go_sem,gS]
  refine zD (fun h2=>?_) (fun h2=>?_)
  ·have hkl:k < iins.length:=by have:=of_decide_eq_true h2; omega
   obtain ⟨x,hx⟩:∃ x,iins[k]?=some x:=⟨iins[k],List.getElem?_eq_getElem hkl⟩
   have hw:IntKind.i64.wrap ((k:Int)+1)=((k+1:Nat):Int):=by rw [qU (by omega) (by omega)]; omega
   simp -dsimp only [go_sem,gS,h2,hx]
   cases x with
   | true =>
    simp -dsimp only [go_sem,gS]
    refine yO (fun b9 v9 hb9 hn9 hm9 hv9=>?_)
    simp -dsimp only [go_sem,gS]
    refine jA (hacc.up hb9) (by simp only [List.length_map,List.length_take,List.length_cons,List.length_nil]; omega) (fun a' G' hacc'=>?_)
    simp -dsimp only [go_sem,gS,hw]
    refine zP (k+1,a') _ ⟨by simp only; omega, ?_,zB4 hacc' (by simp)⟩ (by simp only; omega) (by simp -dsimp only [go_sem,gS]) (.refl _)
    simp only [kK hx,List.map_append,List.map_cons,List.map_nil]
    exact hacc'
   | false =>
    simp -dsimp only [go_sem,gS]
    refine yO (fun b9 v9 hb9 hn9 hm9 hv9=>?_)
    simp -dsimp only [go_sem,gS]
    refine jA (hacc.up hb9) (by simp only [List.length_map,List.length_take,List.length_cons,List.length_nil]; omega) (fun a' G' hacc'=>?_)
    simp -dsimp only [go_sem,gS,hw]
    refine zP (k+1,a') _ ⟨by simp only; omega, ?_,zB4 hacc' (by simp)⟩ (by simp only; omega) (by simp -dsimp only [go_sem,gS]) (.refl _)
    simp only [kK hx,List.map_append,List.map_cons,List.map_nil]
    exact hacc'
  have hkl:k=iins.length:=by have:=of_decide_eq_false h2; omega
  subst hkl
  obtain ⟨bo,vo,rfl⟩:=hown
  rw [List.take_length] at hacc
  obtain ⟨ho1,ho2⟩:=zKo hacc
  have ho2:G bo=some (.arr 9 1 vo ((iins.map wayT).map S)):=by rw [ho2,List.map_map]; rfl
  have hleG:LeH H G:=hle.trans hacc.le
  have e1o:eqn b1 bo=false:=zA5 (by rintro rfl; rw [g1'] at ho2; cases ho2)
  simp -dsimp only [go_sem,gS,h2,ho2,g1']
  refine zA (by simp only [List.size_toArray,List.length_cons,List.length_nil,List.length_append]; omega) ?_
  simp -dsimp only [go_sem,gS,zY]
  refine ACall.frz [true] ?_
  simp -dsimp only [go_sem,gS,ho2]
  refine zAT _ (by omega) _ _ ?_
  simp -dsimp only [go_sem,gS,g1',e1o]
  refine zA (by simp only [List.size_toArray,List.length_cons,List.length_nil,List.length_append]; omega) ?_
  simp -dsimp only [go_sem,gS,zY]
  refine zA (by simp only [List.size_toArray,List.length_cons,List.length_nil,List.length_append]; omega) ?_
  simp -dsimp only [go_sem,gS,zY]
  simp -dsimp only [go_sem,gS,g1',e1o]
  refine zD (fun h=>?_) (fun h=>?_)
  ·have hd1:1≤idet:=of_decide_eq_true h
   simp -dsimp only [go_sem,gS,h,g1',e1o]
   refine zD (fun h=>?_) (fun h=>?_)
   ·have hd4:idet≤4:=of_decide_eq_true h
    have:idet=1∨idet=2∨idet=3∨idet=4:=by omega
    simp -dsimp only [go_sem,gS,h,g1',e1o]
    refine yO (fun b5 v5 hb5 hn5 hm5 hv5=>?_)
    have e15:eqn b1 b5=false:=hn5 b1 (by rw [xI _ _ (of_decide_eq_false e1o),g1']; rfl)
    simp -dsimp only [go_sem,gS,g1',e1o,e15]
    rcases this with rfl | rfl | rfl | rfl
    ·have w:IntKind.i64.wrap (1 - 1)=((0:Nat):Int):=by decide
     refine zA (by decide) ?_
     simp -dsimp only [go_sem,gS,w,g1',e1o,e15]
     refine zA (by simp only [List.size_toArray,List.length_cons,List.length_nil,List.length_append]; omega) ?_
     simp -dsimp only [go_sem,gS,zY]
     refine zA (by simp only [List.size_toArray,List.length_cons,List.length_nil,List.length_append]; omega) ?_
     simp -dsimp only [go_sem,gS,zY]
     exact zB (zO (hle.free (hacc.le.free (zDM hb5))) (zO (hle.free ho1) hleG)) (zC (by simpa only [It.t,It.t0,hk,if_neg (show ¬ (3:Int)=1 by decide),if_neg (show ¬ (3:Int)=2 by decide),if_true,show detT 1=[100,101,116] from rfl,List.cons_append,List.nil_append,List.append_assoc] using hK))
    ·have w:IntKind.i64.wrap (2 - 1)=((1:Nat):Int):=by decide
     refine zA (by decide) ?_
     simp -dsimp only [go_sem,gS,w,g1',e1o,e15]
     refine zA (by simp only [List.size_toArray,List.length_cons,List.length_nil,List.length_append]; omega) ?_
     simp -dsimp only [go_sem,gS,zY]
     refine zA (by simp only [List.size_toArray,List.length_cons,List.length_nil,List.length_append]; omega) ?_
     simp -dsimp only [go_sem,gS,zY]
     exact zB (zO (hle.free (hacc.le.free (zDM hb5))) (zO (hle.free ho1) hleG)) (zC (by simpa only [It.t,It.t0,hk,if_neg (show ¬ (3:Int)=1 by decide),if_neg (show ¬ (3:Int)=2 by decide),if_true,show detT 2=[115,101,109,105,100,101,116] from rfl,List.cons_append,List.nil_append,List.append_assoc] using hK))
    ·have w:IntKind.i64.wrap (3 - 1)=((2:Nat):Int):=by decide
     refine zA (by decide) ?_
     simp -dsimp only [go_sem,gS,w,g1',e1o,e15]
     refine zA (by simp only [List.size_toArray,List.length_cons,List.length_nil,List.length_append]; omega) ?_
     simp -dsimp only [go_sem,gS,zY]
     refine zA (by simp only [List.size_toArray,List.length_cons,List.length_nil,List.length_append]; omega) ?_
     simp -dsimp only [go_sem,gS,zY]
     exact zB (zO (hle.free (hacc.le.free (zDM hb5))) (zO (hle.free ho1) hleG)) (zC (by simpa only [It.t,It.t0,hk,if_neg (show ¬ (3:Int)=1 by decide),if_neg (show ¬ (3:Int)=2 by decide),if_true,show detT 3=[109,117,108,116,105] from rfl,List.cons_append,List.nil_append,List.append_assoc] using hK))
    ·have w:IntKind.i64.wrap (4 - 1)=((3:Nat):Int):=by decide
     refine zA (by decide) ?_
     simp -dsimp only [go_sem,gS,w,g1',e1o,e15]
     refine zA (by simp only [List.size_toArray,List.length_cons,List.length_nil,List.length_append]; omega) ?_
     simp -dsimp only [go_sem,gS,zY]
     refine zA (by simp only [List.size_toArray,List.length_cons,List.length_nil,List.length_append]; omega) ?_
     simp -dsimp only [go_sem,gS,zY]
     exact zB (zO (hle.free (hacc.le.free (zDM hb5))) (zO (hle.free ho1) hleG)) (zC (by simpa only [It.t,It.t0,hk,if_neg (show ¬ (3:Int)=1 by decide),if_neg (show ¬ (3:Int)=2 by decide),if_true,show detT 4=[110,111,110,100,101,116] from rfl,List.cons_append,List.nil_append,List.append_assoc] using hK))
   ·have hd4:¬ idet≤4:=of_decide_eq_false h
    have hdt:detT idet=[]:=by unfold detT; rw [if_neg (by omega),if_neg (by omega),if_neg (by omega),if_neg (by omega)]
    simp -dsimp only [go_sem,gS,h,g1',e1o]
    refine zA (by simp only [List.size_toArray,List.length_cons,List.length_nil,List.length_append]; omega) ?_
    simp -dsimp only [go_sem,gS,zY]
    exact zB (zO (hle.free ho1) hleG) (zC (by simpa only [It.t,It.t0,hk,if_neg (show ¬ (3:Int)=1 by decide),if_neg (show ¬ (3:Int)=2 by decide),if_true,hdt,List.append_nil,List.cons_append,List.nil_append,List.append_assoc] using hK))
  ·have hd1:¬ 1≤idet:=of_decide_eq_false h
   have hdt:detT idet=[]:=by unfold detT; rw [if_neg (by omega),if_neg (by omega),if_neg (by omega),if_neg (by omega)]
   simp -dsimp only [go_sem,gS,h,g1',e1o]
   refine zA (by simp only [List.size_toArray,List.length_cons,List.length_nil,List.length_append]; omega) ?_
   simp -dsimp only [go_sem,gS,zY]
   exact zB (zO (hle.free ho1) hleG) (zC (by simpa only [It.t,It.t0,hk,if_neg (show ¬ (3:Int)=1 by decide),if_neg (show ¬ (3:Int)=2 by decide),if_true,hdt,List.append_nil,List.cons_append,List.nil_append,List.append_assoc] using hK))
 have k3:¬ ik=3:=of_decide_eq_false h
 simp -dsimp only [go_sem,gS,h]
 refine zD (fun h=>?_) (fun h=>?_)
 ·have hk:ik=4:=of_decide_eq_true h
  simp -dsimp only [go_sem,gS,h]
  refine zCu _ iargs hal (fun t ht' G K hK=>zAU t (hao t ht') (hasub t ht') G K hK) _ ?_
  simp -dsimp only [go_sem,gS]
  refine zAT _ (by omega) _ _ ?_
  simp -dsimp only [go_sem,gS]
  refine zA (by simp only [List.size_toArray,List.length_cons,List.length_nil,List.length_append]; omega) ?_
  simp -dsimp only [go_sem,gS,zY]
  refine zD (fun h=>?_) (fun h=>?_)
  ·have hg1:¬ gk=1:=by simpa using h
   simp -dsimp only [go_sem,gS,h]
   rw [←hd]
   refine zI8 g hgo (by omega) _ _ ?_
   simp -dsimp only [go_sem,gS]
   refine zA (by simp only [List.size_toArray,List.length_cons,List.length_nil,List.length_append]; omega) ?_
   simp -dsimp only [go_sem,gS,zY]
   refine zA (by simp only [List.size_toArray,List.length_cons,List.length_nil,List.length_append]; omega) ?_
   simp -dsimp only [go_sem,gS,zY]
   refine zA (by simp only [List.size_toArray,List.length_cons,List.length_nil,List.length_append]; omega) ?_
   simp -dsimp only [go_sem,gS,zY]
   exact zB (G:=H) (zO hb1 (.refl H)) (zC (by simpa only [It.t,It.t0,hk,hgk,if_neg (show ¬ (4:Int)=1 by decide),if_neg (show ¬ (4:Int)=2 by decide),if_neg (show ¬ (4:Int)=3 by decide),if_true,if_neg hg1,List.cons_append,List.nil_append,List.append_assoc] using hK))
  ·have hg1:gk=1:=by simpa using h
   simp -dsimp only [go_sem,gS,h]
   refine zA (by simp only [List.size_toArray,List.length_cons,List.length_nil,List.length_append]; omega) ?_
   simp -dsimp only [go_sem,gS,zY]
   exact zB (G:=H) (zO hb1 (.refl H)) (zC (by simpa only [It.t,It.t0,hk,hgk,if_neg (show ¬ (4:Int)=1 by decide),if_neg (show ¬ (4:Int)=2 by decide),if_neg (show ¬ (4:Int)=3 by decide),if_true,if_pos hg1,List.cons_append,List.nil_append,List.append_assoc] using hK))
 have k4:¬ ik=4:=of_decide_eq_false h
 simp -dsimp only [go_sem,gS,h]
 refine zA (by simp only [List.size_toArray,List.length_cons,List.length_nil,List.length_append]; omega) ?_
 simp -dsimp only [go_sem,gS,zY]
 exact zB (G:=H) (zO hb1 (.refl H)) (zC (by simpa only [It.t,It.t0,if_neg k1,if_neg k2,if_neg k3,if_neg k4,List.nil_append] using hK))
end Go.Aug.Prn
