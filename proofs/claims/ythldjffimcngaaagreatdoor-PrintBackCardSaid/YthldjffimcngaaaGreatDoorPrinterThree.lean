/- The contracts of the printers; conditions stand in each contract. -/
import Derived.Test.YthldjffimcngaaaGreatDoorPrinterTwo
import Derived.Test.YthldjffimcngaaaGreatDoorAnswerOne
import Derived.Test.YthldjffimcngaaaGreatDoorLikesOne
import Derived.Test.YthldjffimcngaaaGreatDoorFormsOne
set_option linter.all false
set_option linter.unusedVariables false
set_option linter.unusedSimpArgs false
set_option linter.unusedSectionVars false

/- The reference's Source; PrintItems. -/
namespace Go.Aug
open Go.Proofs
set_option maxRecDepth 100000
set_option linter.unusedSimpArgs false
attribute [local irreducible] hid andK letA zR wN xX yH xR xE wR idxA ldV ldD addO xD appTo wF slA srcK nilQ retW gif sgd yT svc sops xQ yX aopO xT yU aBin aUn wK aLen zL yW zI yG xC yF yZ zJ zM yV zX yE xG xU frzM putE newK newV wP ACall xH wD zW sret cnd szs nilC yK zQ yA
attribute [local go_sem] Int.natCast_zero
variable {eb:EbG}
theorem zQQ [Envs eb] {s:ByteArray} {l:List It} (h:rpS s=(l,0)) (i:It) (hi:i ∈ l) (H:Heap) (K:A→Heap→Prop) (hK:K (.d (.str (xS i.t))) H):ACall Tryz.prog (zK eb) 35 [.d i.d] H K :=
 zOw i ((qE h).1 i hi) (zEU h i hi) hK
theorem zJy (a b:List UInt8):xS a++xS b=xS (a++b):=by
 apply ByteArray.ext
 rw [ByteArray.data_append]
 simp [xS]
theorem zP0 {l:List It} (j:Nat):(itsT (l.take j)).length≤(itsT l).length:=zDb j
set_option maxHeartbeats 2000000 in
theorem zLx [Envs eb] {s:ByteArray} {l:List It} (h:rpS s=(l,0)) (H:Heap) (K:A→Heap→Prop) (hK:K (.d (.str (xS (itsT l)))) H):ACall Tryz.prog (zK eb) 12 [.d (.slice (l.map It.d))] H K:=by
 have hll:=(qE h).2
 have hfew:=zIh h
 refine ACall.hp_start ?_
 refine ACall.by mixed fn12 (by simp) ?_
 conv in s12=>cbv
 refine zG ?_
 simp -dsimp only [go_sem,gS]
 have z0:(⟨#[]⟩:ByteArray)=xS (itsT (l.take 0)):=rfl
 refine yP (X:=Nat) (fun j=>[(3,.d (.str (xS (itsT (l.take j))))),(6,.d (.slice (l.map It.d))),(7,.d (.int .i64 l.length)),(8,.d (.int .i64 j))])
  (fun j G=>G=hp H []∧j≤l.length) (fun j=>l.length - j) 0 (hp H []) ⟨rfl,Nat.zero_le _⟩ (by simp -dsimp only [go_sem,gS,z0]) (.refl _) ?_
 rintro j G ⟨hG,hj⟩
 rw [hG]
 simp -dsimp only [go_sem,gS]
 refine zD (fun q=>?_) (fun q=>?_)
 ·have q':j < l.length:=by have:=of_decide_eq_true q; omega
  have hw:=qT (k:=j) (by omega)
  obtain ⟨i,hi⟩:=zBc q'
  have htk:=zGW hi
  have hle:=zP0 (l:=l) (j+1)
  have hit:=zQQ (eb:=eb) h i (List.mem_of_getElem? hi)
  rw [htk,List.length_append] at hle
  generalize i.t=tx at htk hle hit
  have hs1:xS (itsT (l.take (j+1)))=xS (itsT (l.take j))++xS tx:=by rw [htk,zJy]
  obtain ⟨x1,x2,x3,x4,x5,x6,x7,x8,x9,x10,x11,x12,_,hd⟩:=i.opn
  rw [hd] at hit
  simp -dsimp only [go_sem,gS,q,hi,hd]
  refine yI (fun b5 f5=>?_)
  simp only [zN,zU] at f5
  simp -dsimp only [go_sem,gS,f5]
  refine hit _ _ ?_
  simp -dsimp only [go_sem,gS,f5]
  refine zA (by rw [jR,jR]; omega) ?_
  simp -dsimp only [go_sem,gS,f5,hw]
  refine zP (j+1) _ ⟨rfl,q'⟩ (by omega) (by simp -dsimp only [go_sem,gS,hs1]) (vQ (by simp only [hpS,eq_self,implies_true,f5]))
 ·have q':j=l.length:=by have:=of_decide_eq_false q; omega
  subst q'
  have ht:l.take l.length=l:=List.take_length
  simp -dsimp only [go_sem,gS,q,ht]
  exact zC hK
end Go.Aug

/- PrintParts: terms, goals and types, printed, are read as they were (printed by PvV.py). -/
namespace Go.Aug
open Go.Proofs
set_option maxRecDepth 100000
set_option linter.unusedSimpArgs false
attribute [local irreducible] hid andK letA zR wN xX yH xR xE wR idxA ldV ldD addO xD appTo wF slA srcK nilQ retW gif sgd yT svc sops xQ yX aopO xT yU aBin aUn wK aLen zL yW zI yG xC yF yZ zJ zM yV zX yE xG xU frzM putE newK newV wP ACall xH wD zW sret cnd szs nilC yK zQ yA
attribute [local go_sem] Int.natCast_zero
variable {eb:EbG}
theorem zTa {e:Int} (h:e≠0):errD e=.sent (errG e):=if_neg h
end Go.Aug

/- PrintBack: what was read, printed, is read again as it was. -/
namespace Go.Aug
open Go.Proofs
set_option maxRecDepth 100000
set_option linter.unusedSimpArgs false
attribute [local irreducible] hid andK letA zR wN xX yH xR xE wR idxA ldV ldD addO xD appTo wF slA srcK nilQ retW gif sgd yT svc sops xQ yX aopO xT yU aBin aUn wK aLen zL yW zI yG xC yF yZ zJ zM yV zX yE xG xU frzM putE newK newV wP ACall xH wD zW sret cnd szs nilC yK zQ yA
attribute [local go_sem] Int.natCast_zero
variable {eb:EbG}
set_option maxHeartbeats 4000000 in
theorem zG9 [Envs eb] (s:ByteArray) (H:Heap) (K:A→Heap→Prop) (hK:K (.d (.bool true)) H):ACall Tryz.prog (zK eb) 3 [.d (.str s)] H K:=by
 have e0:errD 0=.raw .nilIface:=rfl
 have e4:errD 4=.sent 0:=rfl
 have gn1:(zK eb).G 0=some (.sent 0):=vP inferInstance
 have hps:=fun H=>zEm (eb:=eb) H s
 have hsrcs:=zJ3 s
 rw [show zQW s=rpS s from rfl] at hsrcs
 obtain ⟨x,hx⟩:∃ x,x=rpS s:=⟨_,rfl⟩
 rw [←hx] at hps hsrcs
 obtain ⟨l,e⟩:=x
 refine ACall.hp_start ?_
 refine ACall.by mixed fn3 (by simp) ?_
 conv in s3=>cbv
 refine zG ?_
 simp -dsimp only [go_sem,gS]
 refine zJu _ _ ?_
 simp -dsimp only [go_sem,gS]
 refine hps _ _ ?_
 by_cases he:e=0
 ·subst he
  have h:=hx.symm
  obtain ⟨hg,hll⟩:=qE h
  have hfew:=zIh h
  have hb:=zIe hg hll
  rw [e0]
  simp -dsimp only [go_sem,gS]
  refine zA rfl ?_
  simp -dsimp only [go_sem,gS]
  refine zIg h _ _ ?_
  simp -dsimp only [go_sem,gS]
  refine zEm _ _ _ ?_
  have hsz:=jR (itsT l)
  by_cases hs:(itsT l).length≤16384
  ·rw [if_pos hs] at hb
   have hb2:rpS (xS (itsT l))=(l,0):=hb.2
   rw [hb2]
   have d1:decide ((((xS (itsT l)).size:Nat):Int) > 16384)=false:=decide_eq_false (by omega)
   simp only [e0]
   simp -dsimp only [go_sem,gS,d1]
   repeat
    refine zA rfl ?_
    simp -dsimp only [go_sem,gS,d1]
   refine zFf l (by omega) hsrcs.small _ _ ?_
   simp -dsimp only [go_sem,gS]
   refine zIg h _ _ ?_
   simp -dsimp only [go_sem,gS,decide_true]
   refine zLx h _ _ ?_
   simp -dsimp only [go_sem,gS,decide_true]
   exact zC hK
  ·rw [if_neg hs] at hb
   have hb2:rpS (xS (itsT l))=([],4):=hb
   rw [hb2]
   have d1:decide ((((xS (itsT l)).size:Nat):Int) > 16384)=true:=decide_eq_true (by omega)
   simp only [e4]
   simp -dsimp only [go_sem,gS,d1,gn1,decide_true]
   repeat
    refine zA rfl ?_
    simp -dsimp only [go_sem,gS,d1,gn1,decide_true]
   exact zC hK
 ·rw [zTa he]
  simp -dsimp only [go_sem,gS]
  repeat
   refine zA rfl ?_
   simp -dsimp only [go_sem,gS]
  exact zC hK
end Go.Aug
