/- The contracts of the reference's lexer and parser; conditions stand in each contract. -/
import Derived.Test.YthldjffimcngaaaGreatDoorReaderOne
import Derived.Test.YthldjffimcngaaaGreatDoorGrammarOne
set_option linter.all false
set_option linter.unusedVariables false
set_option linter.unusedSimpArgs false
set_option linter.unusedSectionVars false

/- Walks of ParA. -/
namespace Go.Aug
open Go.Proofs
set_option maxRecDepth 100000
set_option linter.unusedSimpArgs false
attribute [local irreducible] hid andK letA zR wN xX yH xR xE wR idxA ldV ldD addO xD appTo wF slA srcK nilQ retW gif sgd yT svc sops xQ yX aopO xT yU aBin aUn wK aLen zL yW zI yG xC yF yZ zJ zM yV zX yE xG xU frzM putE newK newV wP ACall xH wD zW sret cnd szs nilC yK zQ yA
attribute [local go_sem] Int.natCast_zero
theorem zC3 {eb:EbG} (H:Heap) (r:Nat) (l:List Tok) (s:RdS) (h:RdAt H r l s) (K:A→Heap→Prop) (hK:K (.d (.bool (rend l s))) H):ACall Tryz.prog (zK eb) 37 [.ref r 0] H K:=by
 have hr:=h.at_
 have hK':K (.d (.bool (!decide (s.err=0) || decide (l.length≤s.pos)))) H:=hK
 refine ACall.by mixed fn37 (by simp) ?_
 conv in s37=>cbv
 refine zG ?_
 simp -dsimp only [go_sem,gS,hr,rdA]
 refine zD (fun h1=>?_) (fun h1=>?_)
 ·simp -dsimp only [go_sem,gS,h1]
  refine zC ?_
  simpa [h1] using hK'
 ·simp -dsimp only [go_sem,gS,h1,hr,rdA]
  refine zC ?_
  simpa [h1] using hK'
theorem zA6 {eb:EbG} (H:Heap) (r:Nat) (l:List Tok) (s:RdS) (e:Int) (h:RdAt H r l s) (K:A→Heap→Prop) (hK:K (.tup []) (rset H r l (uC e s))):ACall Tryz.prog (zK eb) 38 [.ref r 0,.d (.int .i64 e)] H K:=by
 have hr:=h.at_
 refine ACall.by mixed fn38 (by simp) ?_
 conv in s38=>cbv
 refine zG ?_
 simp -dsimp only [go_sem,gS,hr,rdA]
 refine zD (fun h1=>?_) (fun h1=>?_)
 ·simp -dsimp only [go_sem,gS,h1,hr,rdA]
  refine zC ?_
  have h1':s.err=0:=by simpa using h1
  simpa [uC,h1',rset,rdA] using hK
 ·simp -dsimp only [go_sem,gS,h1]
  refine zC ?_
  have h1':¬ s.err=0:=by simpa using h1
  simpa [uC,h1',h.self] using hK
theorem zXL {eb:EbG} (H:Heap) (r:Nat) (l:List Tok) (s:RdS) (t:ByteArray) (h:RdAt H r l s) (K:A→Heap→Prop) (hK:K (.d (.bool (ris l t s))) H):ACall Tryz.prog (zK eb) 117 [.ref r 0,.d (.str t)] H K:=by
 have hr:=h.at_
 refine ACall.by mixed zXt (by simp) ?_
 conv in s117=>cbv
 refine zG ?_
 simp -dsimp only [go_sem,gS]
 refine zC3 _ r l s h _ ?_
 cases he:rend l s with
 | true =>
  simp -dsimp only [go_sem,gS]
  refine zC ?_
  simpa [ris,he] using hK
 | false =>
  obtain ⟨h0,hlt,k,hk⟩:=uK he
  simp -dsimp only [go_sem,gS,hr,rdA,hk,hlt,Tok.d,Tok.cs]
  refine zD (fun h1=>?_) (fun h1=>?_)
  ·simp -dsimp only [go_sem,gS,h1,hr,rdA,hk,hlt,Tok.d,Tok.cs]
   refine zD (fun h2=>?_) (fun h2=>?_)
   ·simp -dsimp only [go_sem,gS,h2]
    refine zC ?_
    simpa [ris,he,hk,h1,h2] using hK
   ·simp -dsimp only [go_sem,gS,h2,hr,rdA,hk,hlt,Tok.d,Tok.cs]
    refine zC ?_
    simpa [ris,he,hk,h1,h2] using hK
  ·simp -dsimp only [go_sem,gS,h1]
   refine zC ?_
   simpa [ris,he,hk,h1] using hK

theorem uX {eb:EbG} (H:Heap) (r:Nat) (l:List Tok) (s:RdS) (t:ByteArray) (h:RdAt H r l s) (K:A→Heap→Prop) (hK:K (.d (.bool (rgot l t s).1)) (rset H r l (rgot l t s).2)):ACall Tryz.prog (zK eb) 85 [.ref r 0,.d (.str t)] H K:=by
 have hr:=h.at_
 refine ACall.by mixed fn85 (by simp) ?_
 conv in s85=>cbv
 refine zG ?_
 simp -dsimp only [go_sem,gS]
 refine zXL _ r l s t h _ ?_
 cases he:ris l t s with
 | true =>
  have hi:=he
  simp only [ris,Bool.and_eq_true,Bool.not_eq_true'] at hi
  have hlt:=(uK hi.1).2.1
  have hw:=qT (k:=s.pos) (by have:=h.short; omega)
  simp -dsimp only [go_sem,gS,hr,rdA,hw]
  refine zC ?_
  simpa [rgot,he,rset,rdA] using hK
 | false =>
  simp -dsimp only [go_sem,gS]
  refine zC ?_
  simpa [rgot,he,h.self] using hK
theorem zBS {eb:EbG} (H:Heap) (r:Nat) (l:List Tok) (s:RdS) (t:ByteArray) (h:RdAt H r l s) (K:A→Heap→Prop) (hK:K (.tup []) (rset H r l (yR l t s))):ACall Tryz.prog (zK eb) 40 [.ref r 0,.d (.str t)] H K:=by
 have hr:=h.at_
 refine ACall.by mixed fn40 (by simp) ?_
 conv in s40=>cbv
 refine zG ?_
 simp -dsimp only [go_sem,gS,hr,rdA]
 refine zD (fun h1=>?_) (fun h1=>?_)
 ·have h1':s.err=0:=by simpa using h1
  simp -dsimp only [go_sem,gS,h1]
  refine uX _ r l s t h _ ?_
  cases hg:(rgot l t s).1 with
  | true =>
   simp -dsimp only [go_sem,gS]
   refine zC ?_
   simpa [yR,h1',hg] using hK
  | false =>
   simp -dsimp only [go_sem,gS]
   refine zA6 _ r l (rgot l t s).2 2 (h.to (yQ h.le)) _ ?_
   simp -dsimp only [go_sem,gS]
   refine zC ?_
   simpa [yR,h1',hg,jI] using hK
 ·have h1':¬ s.err=0:=by simpa using h1
  simp -dsimp only [go_sem,gS,h1]
  refine zC ?_
  simpa [yR,h1',h.self] using hK
theorem zH0 {eb:EbG} (H:Heap) (r:Nat) (l:List Tok) (s:RdS) (n:Nat) (h:RdAt H r l s) (K:A→Heap→Prop) (hK:K (.tup []) (rset H r l (yD l n s))):ACall Tryz.prog (zK eb) 118 [.ref r 0,.d (.int .i64 n)] H K:=by
 refine ACall.by mixed zXu (by simp) ?_
 conv in s118=>cbv
 refine zG ?_
 simp -dsimp only [go_sem,gS]
 refine zD (fun h1=>?_) (fun h1=>?_)
 ·have h1':64 < n:=by have:=of_decide_eq_true h1; omega
  simp -dsimp only [go_sem,gS,h1]
  refine zC3 _ r l s h _ ?_
  cases he:rend l s with
  | true =>
   simp -dsimp only [go_sem,gS]
   refine zC ?_
   simpa [yD,he,h.self] using hK
  | false =>
   simp -dsimp only [go_sem,gS]
   refine zA6 _ r l s 3 h _ ?_
   simp -dsimp only [go_sem,gS]
   refine zC ?_
   simpa [yD,he,h1'] using hK
 ·have h1':¬ 64 < n:=by have:=of_decide_eq_false h1; omega
  simp -dsimp only [go_sem,gS,h1]
  refine zC ?_
  simpa [yD,h1',h.self] using hK
theorem zH4 {eb:EbG} (H:Heap) (s:ByteArray) (K:A→Heap→Prop) (hK:K (.d (.bool (xF s))) H):ACall Tryz.prog (zK eb) 16 [.d (.str s)] H K:=by
 refine ACall.by mixed fn16 (by simp) ?_
 conv in s16=>cbv
 refine zG ?_
 simp -dsimp only [go_sem,gS]
 refine yO (fun b v hb hn hm hv=>?_)
 simp -dsimp only [go_sem,gS]
 have hlen:reserved.length=18:=rfl
 refine yP (fun k:Nat=>[(0,.d (.str s)),(5,.own b v),(6,.d (.int .i64 ((18:Nat):Int))),(7,.d (.int .i64 k))])
  (fun k G=>k≤18∧LeH (upd H b (.arr 9 1 v (reserved.map .str))) G∧∀ (j:Nat) w,j < k→reserved[j]?=some w→w≠s) (fun k=>18 - k) 0 (upd H b (.arr 9 1 v (reserved.map .str))) ⟨by omega,.refl _,fun j w h=>by omega⟩ (by simp -dsimp only [go_sem,gS]) (.refl _) ?_
 rintro k G ⟨hk,hle1,hj⟩
 have hle:LeH H G:=(zO hb (.refl _)).trans hle1
 have hG:=hle1 b _ (zV ..)
 simp -dsimp only [go_sem,gS]
 refine zD (fun h1=>?_) (fun h1=>?_)
 ·have hk':k < 18:=by have:=of_decide_eq_true h1; omega
  obtain ⟨w,hw⟩:∃ w,reserved[k]?=some w:=⟨reserved[k]'(by rw [hlen]; exact hk'),by simp⟩
  have hkl:k < reserved.length:=by rw [hlen]; exact hk'
  have hwk:=qT (k:=k) (by omega)
  simp -dsimp only [go_sem,gS,hG,hw,hkl]
  refine zD (fun h2=>?_) (fun h2=>?_)
  ·simp -dsimp only [go_sem,gS]
   refine zB hle (zC ?_)
   have:xF s=true:=by
    rw [xF,List.any_eq_true]
    exact ⟨w,List.mem_of_getElem? hw,h2⟩
   rwa [this] at hK
  ·simp -dsimp only [go_sem,gS,hwk]
   refine zP (k+1) _ ⟨by omega,hle1, ?_⟩ (by omega) (by simp -dsimp only [go_sem,gS]) (.refl _)
   intro j w' hjk hw'
   rcases Nat.lt_succ_iff_lt_or_eq.1 hjk with h | rfl
   ·exact hj j w' h hw'
   ·rw [hw] at hw'; cases hw'; exact of_decide_eq_false h2
 ·simp -dsimp only [go_sem,gS]
  refine zB hle (zC ?_)
  have:xF s=false:=by
   rw [xF,List.any_eq_false]
   intro w hw
   obtain ⟨j,hjw⟩:=List.getElem?_of_mem hw
   have:j < 18:=by rw [←hlen]; exact (List.getElem?_eq_some_iff.1 hjw).1
   have h1':=of_decide_eq_false h1
   simpa using hj j w (by omega) hjw
  rwa [this] at hK
theorem zAY {eb:EbG} (H:Heap) (r:Nat) (l:List Tok) (s:RdS) (kind:Int) (h:RdAt H r l s) (K:A→Heap→Prop) (hK:K (.d (.str (zS l kind s).1)) (rset H r l (zS l kind s).2)):ACall Tryz.prog (zK eb) 86 [.ref r 0,.d (.int .i64 kind)] H K:=by
 have hr:=h.at_
 refine ACall.by mixed fn86 (by simp) ?_
 conv in s86=>cbv
 refine zG ?_
 simp -dsimp only [go_sem,gS]
 refine zC3 _ r l s h _ ?_
 cases he:rend l s with
 | true =>
  simp -dsimp only [go_sem,gS]
  refine zA6 _ r l s 2 h _ ?_
  simp -dsimp only [go_sem,gS]
  refine zC ?_
  simpa [zS,he] using hK
 | false =>
  obtain ⟨h0,hlt,k,hk⟩:=uK he
  have hw:=qT (k:=s.pos) (by have:=h.short; omega)
  have hw2:IntKind.i64.wrap (((s.pos+1:Nat):Int) - 1)=(s.pos:Int):=by rw [jP (by omega) (by have:=h.short; omega)]; omega
  simp -dsimp only [go_sem,gS,hr,rdA,hk,hlt,Tok.d,Tok.cs]
  refine zD (fun h1=>?_) (fun h1=>?_)
  ·simp -dsimp only [go_sem,gS,h1]
   refine zA6 _ r l s 2 h _ ?_
   simp -dsimp only [go_sem,gS]
   refine zC ?_
   have h1':k.kind≠kind:=by simpa using h1
   simpa [zS,he,hk,h1'] using hK
  ·have h1':k.kind=kind:=by simpa using h1
   simp -dsimp only [go_sem,gS,h1]
   refine (fun (key:xF k.text=false∨kind≠1→?T)=>?main) ?rest
   case main =>
    refine zD (fun h2=>?_) (fun h2=>?_)
    ·have h2':kind=1:=by simpa using h2
     simp -dsimp only [go_sem,gS,h2,hr,rdA,hk,hlt,Tok.d,Tok.cs]
     refine zH4 _ k.text _ ?_
     cases hs:xF k.text with
     | true =>
      simp -dsimp only [go_sem,gS]
      refine zA6 _ r l s 2 h _ ?_
      simp -dsimp only [go_sem,gS]
      refine zC ?_
      simpa [zS,he,hk,h1',h2',hs] using hK
     | false =>
      simp -dsimp only [go_sem,gS,hr,rdA,hw,hk,hlt,Tok.d,Tok.cs,hw2]
      exact key (.inl hs)
    ·have h2':¬ kind=1:=by simpa using h2
     simp -dsimp only [go_sem,gS,h2,hr,rdA,hw,hk,hlt,Tok.d,Tok.cs,hw2]
     exact key (.inr h2')
   case rest =>
    intro hx
    refine zC ?_
    have:¬ (k.kind≠kind∨(kind=1∧xF k.text=true)):=by
     rintro (h | ⟨h3,h4⟩)
     ·exact h h1'
     ·rcases hx with hx | hx
      ·rw [hx] at h4; cases h4
      ·exact hx h3
    simpa [zS,he,hk,this,rset,rdA] using hK
theorem zBQ {eb:EbG} (H:Heap) (r:Nat) (l:List Tok) (s:RdS) (n:Nat) (h:RdAt H r l s) (K:A→Heap→Prop) (hK:K (.d (.bool (xK l n s).1)) (rset H r l (xK l n s).2)):ACall Tryz.prog (zK eb) 87 [.ref r 0,.d (.int .i64 n)] H K:=by
 refine ACall.by mixed fn87 (by simp) ?_
 conv in s87=>cbv
 refine zG ?_
 simp -dsimp only [go_sem,gS]
 refine (fun (key:∀ (s1:RdS) (G:Heap),G=rset H r l s1→s1.pos≤l.length→xK l n s=xZ l n s1→(?T:RdS→Heap→Prop) s1 G)=>?main) ?rest
 case main =>
  refine zD (fun h1=>?_) (fun h1=>?_)
  ·have h1':n=0:=by have:=of_decide_eq_true h1; clear key; omega
   simp -dsimp only [go_sem,gS,h1]
   refine uX _ r l s _ h _ ?_
   cases hg:(rgot l ⟨#[40]⟩ s).1 with
   | false =>
    simp -dsimp only [go_sem,gS]
    refine zC ?_
    simpa [xK,h1',hg] using hK
   | true =>
    have hle:=yQ (t:=⟨#[40]⟩) h.le
    have hm:xK l n s=xZ l n (rgot l ⟨#[40]⟩ s).2:=by simp [xK,h1',hg]
    simp -dsimp only [go_sem,gS]
    generalize (rgot l ⟨#[40]⟩ s).2=s1 at hle hm ⊢
    generalize hG:rset H r l s1=G
    exact key s1 G hG.symm hle hm
  ·have h1':¬ n=0:=by have:=of_decide_eq_false h1; clear key; omega
   simp -dsimp only [go_sem,gS,h1]
   refine uX _ r l s _ h _ ?_
   have h2:=h.to (yQ (t:=⟨#[41]⟩) h.le)
   have hr2:=h2.at_
   have herr:=wE l ⟨#[41]⟩ s
   cases hg:(rgot l ⟨#[41]⟩ s).1 with
   | true =>
    simp -dsimp only [go_sem,gS]
    refine zC ?_
    simpa [xK,h1',hg] using hK
   | false =>
    simp -dsimp only [go_sem,gS,hr2,rdA]
    refine zD (fun h3=>?_) (fun h3=>?_)
    ·have h3':¬ (rgot l ⟨#[41]⟩ s).2.err=0:=by simpa using h3
     simp -dsimp only [go_sem,gS,h3]
     refine zC ?_
     simpa [xK,h1',hg,h3'] using hK
    ·have h3':(rgot l ⟨#[41]⟩ s).2.err=0:=by simpa using h3
     simp -dsimp only [go_sem,gS,h3]
     refine zBS _ r l _ _ h2 _ ?_
     have hle:=wT (t:=⟨#[44]⟩) (yQ (t:=⟨#[41]⟩) h.le)
     have hm:xK l n s=xZ l n (yR l ⟨#[44]⟩ (rgot l ⟨#[41]⟩ s).2):=by simp [xK,h1',hg,h3']
     rw [jI]
     simp -dsimp only [go_sem,gS]
     generalize yR l ⟨#[44]⟩ (rgot l ⟨#[41]⟩ s).2=s1 at hle hm ⊢
     generalize hG:rset H r l s1=G
     exact key s1 G hG.symm hle hm
 case rest =>
  rintro s1 G rfl hle hm
  have h1:=h.to hle
  have hr1:=h1.at_
  rw [hm] at hK
  refine zD (fun h2=>?_) (fun h2=>?_)
  ·have h2':n=8:=by have:=of_decide_eq_true h2; omega
   simp -dsimp only [go_sem,gS,h2]
   refine zC3 _ r l s1 h1 _ ?_
   cases he:rend l s1 with
   | true =>
    simp -dsimp only [go_sem,gS,hr1,rdA]
    refine zC ?_
    simpa [xZ,he] using hK
   | false =>
    simp -dsimp only [go_sem,gS]
    refine zA6 _ r l s1 4 h1 _ ?_
    rw [jI]
    have h3:=h.to (s':=uC 4 s1) (by rw [vN]; exact hle)
    have hr3:=h3.at_
    simp -dsimp only [go_sem,gS,hr3,rdA]
    refine zC ?_
    simpa [xZ,he,h2'] using hK
  ·have h2':¬ n=8:=by have:=of_decide_eq_false h2; omega
   simp -dsimp only [go_sem,gS,h2,hr1,rdA]
   refine zC ?_
   simpa [xZ,h2'] using hK
end Go.Aug

/- Walks of ParC. -/
namespace Go.Aug
open Go.Proofs
set_option maxRecDepth 100000
set_option linter.unusedSimpArgs false
attribute [local irreducible] hid andK letA zR wN xX yH xR xE wR idxA ldV ldD addO xD appTo wF slA srcK nilQ retW gif sgd yT svc sops xQ yX aopO xT yU aBin aUn wK aLen zL yW zI yG xC yF yZ zJ zM yV zX yE xG xU frzM putE newK newV wP ACall xH wD zW sret cnd szs nilC yK zQ yA
attribute [local go_sem] Int.natCast_zero
set_option maxHeartbeats 2000000 in
theorem term_ok {eb:EbG}:∀ (f:Nat) (H:Heap) (r:Nat) (l:List Tok) (s:RdS) (n:Nat) (_:67≤f+n) (_:n≤66) (_:RdAt H r l s) (K:A→Heap→Prop) (_:K (.d (yS f l n s).1.d) (rset H r l (yS f l n s).2)),
  ACall Tryz.prog (zK eb) 90 [.ref r 0,.d (.int .i64 n)] H K
 | 0,H,r,l,s,n,hf,hn,h,K,hK=>by omega
 | f+1,H,r,l,s,n,hf,hn,h,K,hK=>by
  refine ACall.by mixed fn90 (by simp) ?_
  conv in s90=>cbv
  refine zG ?_
  simp -dsimp only [go_sem,gS]
  refine yL (fun b4 hb4 hn4 hm4=>?_)
  have er4:eqn r b4=false:=hn4 r (by rw [h.at_]; rfl)
  simp -dsimp only [go_sem,gS]
  have h1:RdAt (upd H b4 (.var [.d (.int .i64 0),.d (.str ⟨#[]⟩),.d (.int .i64 0),.nils])) r l s:=⟨by rw [xI _ _ (of_decide_eq_false er4)]; exact h.at_,h.short,h.le⟩
  refine zH0 _ r l s n h1 _ ?_
  have h2:=h1.to (s':=yD l n s) (by rw [vO]; exact h.le)
  simp -dsimp only [go_sem,gS]
  refine zC3 _ r l _ h2 _ ?_
  have hr2:=h2.at_
  have hfr:∀ s',rset H r l s' b4=none:=fun s'=>by rw [rset,xI _ _ (Ne.symm (of_decide_eq_false er4))]; exact hb4
  refine (fun (key:yS (f+1) l n s=(.mk 3 (zS l 1 (yD l n s)).1 0 (yC (yS f l (n+1)) l 10 [] (zS l 1 (yD l n s)).2).1,(yC (yS f l (n+1)) l 10 [] (zS l 1 (yD l n s)).2).2)→?T)=>?main) ?rest
  case main =>
   cases he:rend l (yD l n s) with
   | true =>
    simp -dsimp only [go_sem,gS]
    refine zC3 _ r l _ h2 _ ?_
    rw [he]
    simp -dsimp only [go_sem,gS]
    exact key (by simp [yS,he])
   | false =>
    obtain ⟨h0,hlt,k,hk⟩:=uK he
    have hw:=qT (k:=(yD l n s).pos) (by have:=h.short; clear key; omega)
    have hw2:IntKind.i64.wrap ((((yD l n s).pos+1:Nat):Int) - 1)=((yD l n s).pos:Int):=by clear key; rw [jP (by omega) (by have:=h.short; omega)]; omega
    have er4':eqn b4 r=false:=hm4 r (by rw [h.at_]; rfl)
    simp -dsimp only [go_sem,gS,hr2,rdA,hk,hlt,Tok.d,Tok.cs]
    refine zD (fun h3=>?_) (fun h3=>?_)
    ·have h3':k.kind=3:=of_decide_eq_true h3
     simp -dsimp only [go_sem,gS,h3,hr2,rdA,hk,hlt,Tok.d,Tok.cs,hw,hw2,rset,er4,er4',uF]
     have hv:yS (f+1) l n s=(.mk 2 ⟨#[]⟩ k.int [],⟨(yD l n s).pos+1,(yD l n s).err⟩):=by simp [yS,he,hk,h3']
     rw [hv] at hK
     refine zZ ?_
     simp -dsimp only [go_sem,gS]
     refine zB ?_ (zC hK)
     exact zO (hfr _) (jF (zO hb4 (.refl _)))
    ·have h3':¬ k.kind=3:=of_decide_eq_false h3
     simp -dsimp only [go_sem,gS,h3]
     refine zC3 _ r l _ h2 _ ?_
     rw [he]
     simp -dsimp only [go_sem,gS,hr2,rdA,hk,hlt,Tok.d,Tok.cs]
     refine zD (fun h4=>?_) (fun h4=>?_)
     ·have h4':k.kind=2:=of_decide_eq_true h4
      simp -dsimp only [go_sem,gS,h4,hr2,rdA,hk,hlt,Tok.d,Tok.cs,hw,hw2,rset,er4,er4',uF]
      have hv:yS (f+1) l n s=(.mk 1 k.text 0 [],⟨(yD l n s).pos+1,(yD l n s).err⟩):=by simp [yS,he,hk,h4']
      rw [hv] at hK
      refine zZ ?_
      simp -dsimp only [go_sem,gS]
      refine zB ?_ (zC hK)
      exact zO (hfr _) (jF (zO hb4 (.refl _)))
     ·have h4':¬ k.kind=2:=of_decide_eq_false h4
      simp -dsimp only [go_sem,gS,h4]
      exact key (by simp [yS,he,hk,h3',h4'])
  case rest =>
   intro hval
   rw [hval] at hK
   refine zAY _ r l _ 1 h2 _ ?_
   rw [jI]
   have h3:=h1.to (s':=(zS l 1 (yD l n s)).2) (wJ (by rw [vO]; exact h.le))
   have hw65:(zS l 1 (yD l n s)).2.err=0→n+1≤66:=fun h0=>by
    have:=(zBy h0).2.2
    by_cases hx:64 < n
    ·rw [zCW hx] at this; cases this
    ·omega
   clear hval h2 hr2
   generalize (zS l 1 (yD l n s)).1=w at hK ⊢
   generalize (zS l 1 (yD l n s)).2=S3 at hK h3 hw65 ⊢
   simp -dsimp only [go_sem,gS]
   refine yL (fun b5 hb5 hn5 hm5=>?_)
   have er5:eqn r b5=false:=hn5 r (by rw [h3.at_]; rfl)
   have e45:eqn b4 b5=false:=hn5 b4 (by rw [rset,xI _ _ (Ne.symm (of_decide_eq_false er4)),zV]; rfl)
   have er4':r≠b4:=of_decide_eq_false er4
   have er5':r≠b5:=of_decide_eq_false er5
   have e45':b4≠b5:=of_decide_eq_false e45
   have hw:=qT (k:=n) (by omega)
   simp -dsimp only [go_sem,gS,uF]
   generalize hZ:upd H b4 (.var [.d (.int .i64 0),.d (.str ⟨#[]⟩),.d (.int .i64 0),.nils])=Z at h1 h3 hb5 hn5 hm5 ⊢
   have hZ4:Z b4=some (.var [.d (.int .i64 0),.d (.str ⟨#[]⟩),.d (.int .i64 0),.nils]):=by rw [←hZ,zV]
   have hHZ:LeH H Z:=by rw [←hZ]; exact zO hb4 (.refl _)
   have hZ5:∀ s',rset Z r l s' b5=none:=fun s'=>by
    rw [rset,xI _ _ (Ne.symm er5')] at hb5 ⊢; exact hb5
   have hTr:∀ s1 a,upd (rset Z r l s1) b5 (.var [.d (.int .i64 3),.d (.str w),.d (.int .i64 0),a]) r=some (.var (rdA l s1)):=fun s1 a=>by rw [xI _ _ er5',rset,zV]
   have hT4:∀ s1 a,upd (rset Z r l s1) b5 (.var [.d (.int .i64 3),.d (.str w),.d (.int .i64 0),a]) b4=some (.var [.d (.int .i64 0),.d (.str ⟨#[]⟩),.d (.int .i64 0),.nils]):=fun s1 a=>by
    rw [xI _ _ e45',rset,xI _ _ (Ne.symm er4'),hZ4]
   have hTs:∀ s1 s2 a,upd (upd (rset Z r l s1) b5 (.var [.d (.int .i64 3),.d (.str w),.d (.int .i64 0),a])) r (.var (rdA l s2))=upd (rset Z r l s2) b5 (.var [.d (.int .i64 3),.d (.str w),.d (.int .i64 0),a]):=fun s1 s2 a=>by
    rw [zDL (Ne.symm er5'),rset,uF]; rfl
   refine yP (X:=Nat×List Tm×RdS×A) (fun x=>[(0,.ref r 0),(1,.d (.int .i64 n)),(4,.ref b4 0),(5,.ref b5 0)])
    (fun x G=>x.2.2.1.pos≤l.length∧yC (yS f l (n+1)) l x.1 x.2.1 x.2.2.1=yC (yS f l (n+1)) l 10 [] S3∧x.2.1.length+x.1=10∧(x.2.2.1.err=0→x.2.1.length≤8∧n+1≤66) ∧
     AccAt (upd (rset Z r l x.2.2.1) b5 (.var [.d (.int .i64 3),.d (.str w),.d (.int .i64 0),x.2.2.2])) 39 4 (x.2.1.map Tm.d) x.2.2.2 G) (fun x=>x.1) (10,[],S3,.nils) _
    ⟨h3.le,rfl,rfl,fun h0=>⟨by simp,hw65 h0⟩,.nils ..⟩ (by simp -dsimp only [go_sem,gS]) (.refl _) ?_
   rintro ⟨k,xs,s1,a⟩ G ⟨hpos,hrun,hlen,herr,hacc⟩
   simp only at hpos hrun hlen herr hacc
   have hle:=hacc.le
   have hGr:=hle _ _ (hTr s1 a)
   have hG5:=hle b5 _ (zV ..)
   have hR:RdAt G r l s1:=⟨hGr,h.short,hpos⟩
   have hln:=zDT hacc
   have hlb:lenable Tryz.prog 37 a=true:=zEf hacc zGb
   have hmove:∀ s2,AccAt (upd (rset Z r l s2) b5 (.var [.d (.int .i64 3),.d (.str w),.d (.int .i64 0),a])) 39 4 (xs.map Tm.d) a (rset G r l s2):=fun s2=>by
    have:=hacc.set (o':=.var (rdA l s2)) (hTr s1 a)
    rw [hTs] at this; exact this
   simp -dsimp only [go_sem,gS,hGr,rdA]
   refine (fun (key2:∀ (s':RdS) (G':Heap),AccAt (upd (rset Z r l s') b5 (.var [.d (.int .i64 3),.d (.str w),.d (.int .i64 0),a])) 39 4 (xs.map Tm.d) a G'→yC (yS f l (n+1)) l 10 [] S3=(xs,s')→(?T2:Heap→Prop) G')=>?main2) ?rest2
   case main2 =>
    refine zD (fun h4=>?_) (fun h4=>?_)
    ·have h4':s1.err=0:=of_decide_eq_true h4
     obtain ⟨hl8,hn66⟩:=herr h4'
     obtain ⟨k,rfl⟩:∃ k',k=k'+1:=⟨k - 1,by clear key2; omega⟩
     simp -dsimp only [go_sem,gS,h4,hG5,hlb,hln]
     refine zBQ _ r l s1 xs.length hR _ ?_
     have hR2:=hR.to (qN (n:=xs.length) hpos)
     cases hm:(xK l xs.length s1).1 with
     | false =>
      have hfin:yC (yS f l (n+1)) l 10 [] S3=(xs,(xK l xs.length s1).2):=by rw [←hrun]; simp [yC,h4',hm]
      have hm2:=hmove (xK l xs.length s1).2
      simp -dsimp only [go_sem,gS]
      generalize (xK l xs.length s1).2=s2 at hfin hm2 ⊢
      generalize rset G r l s2=G' at hm2 ⊢
      exact key2 s2 G' hm2 hfin
     | true =>
      obtain ⟨he2,hp2,h82⟩:=zAf hm
      have hm2:=hmove (xK l xs.length s1).2
      have hrun':yC (yS f l (n+1)) l k (xs++[(yS f l (n+1) (xK l xs.length s1).2).1]) (yS f l (n+1) (xK l xs.length s1).2).2=yC (yS f l (n+1)) l 10 [] S3:=by
       rw [←hrun]; simp [yC,h4',hm]
      have h8':xs.length=8→(yS f l (n+1) (xK l xs.length s1).2).2.err≠0:=fun h8=>kJ (by clear key2; omega) (h82 h8)
      have hpos3:=zGk f (n+1) _ (qN (n:=xs.length) hpos)
      clear hrun hmove he2 hp2 h82 hm
      have hmove:∀ s3,AccAt (upd (rset Z r l s3) b5 (.var [.d (.int .i64 3),.d (.str w),.d (.int .i64 0),a])) 39 4 (xs.map Tm.d) a (rset (rset G r l (xK l xs.length s1).2) r l s3):=fun s3=>by
       have:=hm2.set (o':=.var (rdA l s3)) (hTr _ a)
       rw [hTs] at this; exact this
      generalize (xK l xs.length s1).2=s2 at hR2 hm2 hrun' h8' hpos3 hmove ⊢
      have hG52:=hm2.le b5 _ (zV ..)
      simp -dsimp only [go_sem,gS,hG52,hw]
      refine term_ok f _ r l s2 (n+1) (by clear key2; omega) hn66 hR2 _ ?_
      have hm3:=hmove (yS f l (n+1) s2).2
      have hG53:=hm3.le b5 _ (zV ..)
      rw [jI] at hm3 hG53 ⊢
      generalize (yS f l (n+1) s2).1=t at hrun' ⊢
      generalize (yS f l (n+1) s2).2=s3 at hm3 hG53 hrun' h8' hpos3 ⊢
      have hcs:=t.cs_length
      simp -dsimp only [go_sem,gS,hG53,Tm.d,hcs]
      refine yO (fun bn vn hbn hnn hmn hvn=>?_)
      have e5n:eqn b5 bn=false:=hnn b5 (by rw [hG53]; rfl)
      simp -dsimp only [go_sem,gS,e5n,hG53,hcs]
      refine jA (hm3.up hbn) ?_ (fun a' H' h'=>?_)
      ·clear key2; simp only [List.length_map,List.length_cons,List.length_nil]; omega
      have hH5:=h'.le b5 _ (zV ..)
      obtain ⟨hag,hac⟩:=h'.one
      simp -dsimp only [go_sem,gS,hH5,hag,hac]
      refine zP (k,xs++[t],s3,a') _ ⟨hpos3,hrun', ?_, ?_, ?_⟩ ?_ (by simp -dsimp only [go_sem,gS]) (.refl _)
      ·clear key2; simp only [List.length_append,List.length_cons,List.length_nil]; omega
      ·intro h0
       refine ⟨?_,Nat.le_of_succ_le_succ hn66⟩
       have:xs.length≠8:=fun h8=>h8' h8 h0
       clear key2; simp only [List.length_append,List.length_cons,List.length_nil]; omega
      ·have:=h'.set (o':=.var [.d (.int .i64 3),.d (.str w),.d (.int .i64 0),a']) (zV ..)
       rw [uF] at this
       simpa [Tm.d] using this
      ·exact Nat.lt_succ_self k
    ·have h4':s1.err≠0:=of_decide_eq_false h4
     simp -dsimp only [go_sem,gS,h4]
     exact key2 s1 G hacc (by rw [←hrun]; exact yJ h4')
   case rest2 =>
    intro s' G' hacc' hfin
    have hle':=hacc'.le
    have hG5':=hle' b5 _ (zV ..)
    have hG4':=hle' b4 _ (hT4 s' a)
    have hal:allD [a]=none:=hacc'.allD
    simp -dsimp only [go_sem,gS,hG5',hG4',hal,uF]
    refine zZ ?_
    simp -dsimp only [go_sem,gS]
    have hset:=hacc'.set (o':=.var [.d (.int .i64 3),.d (.str w),.d (.int .i64 0),a]) (hT4 s' a)
    refine AccAt.deep hset (fun H3 h3'=>?_)
    simp -dsimp only [go_sem,gS]
    rw [hfin] at hK
    refine zB (G:=rset H r l s') ?_ (zC ?_)
    ·refine LeH.trans ?_ h3'
     have hb:LeH (rset H r l s') (rset Z r l s'):=jF hHZ
     exact zO (hfr s') (zO (hb.free (hZ5 s')) hb)
    ·rw [show Tm.d (Tm.mk 3 w 0 xs)=.agg [.int .i64 3,.str w,.int .i64 0,.slice (xs.map Tm.d)] by simp only [Tm.d,Tm.cs,Tm.ds_map]] at hK
     exact hK

theorem zB1 {eb:EbG}:∀ (f:Nat) (H:Heap) (r:Nat) (l:List Tok) (s:RdS) (n:Nat) (_:67≤f+n) (_:n≤66) (_:RdAt H r l s) (K:A→Heap→Prop) (_:K (.d (xN f l n s).1.d) (rset H r l (xN f l n s).2)),
  ACall Tryz.prog (zK eb) 89 [.ref r 0,.d (.int .i64 n)] H K
 | 0,H,r,l,s,n,hf,hn,h,K,hK=>by omega
 | f+1,H,r,l,s,n,hf,hn,h,K,hK=>by
  refine ACall.by mixed fn89 (by simp) ?_
  conv in s89=>cbv
  refine zG ?_
  simp -dsimp only [go_sem,gS]
  refine yL (fun b4 hb4 hn4 hm4=>?_)
  have er4:eqn r b4=false:=hn4 r (by rw [h.at_]; rfl)
  simp -dsimp only [go_sem,gS]
  have h1:RdAt (upd H b4 (.var [.d (.bool false),.d (.str ⟨#[]⟩),.nils])) r l s:=⟨by rw [xI _ _ (of_decide_eq_false er4)]; exact h.at_,h.short,h.le⟩
  refine zH0 _ r l s n h1 _ ?_
  have h2:=h1.to (s':=yD l n s) (by rw [vO]; exact h.le)
  simp -dsimp only [go_sem,gS]
  refine zC3 _ r l _ h2 _ ?_
  have hr2:=h2.at_
  have hfr:∀ s',rset H r l s' b4=none:=fun s'=>by rw [rset,xI _ _ (Ne.symm (of_decide_eq_false er4))]; exact hb4
  refine (fun (key:zAr l (yD l n s)=none→?T)=>?main) ?rest
  case main =>
   cases he:rend l (yD l n s) with
   | true =>
    simp -dsimp only [go_sem,gS]
    exact key (by simp [zAr,he])
   | false =>
    obtain ⟨h0,hlt,k,hk⟩:=uK he
    have hw:=qT (k:=(yD l n s).pos) (by have:=h.short; clear key; omega)
    have hw2:IntKind.i64.wrap ((((yD l n s).pos+1:Nat):Int) - 1)=((yD l n s).pos:Int):=by clear key; rw [jP (by omega) (by have:=h.short; omega)]; omega
    have er4':eqn b4 r=false:=hm4 r (by rw [h.at_]; rfl)
    simp -dsimp only [go_sem,gS,hr2,rdA,hk,hlt,Tok.d,Tok.cs]
    refine zD (fun h3=>?_) (fun h3=>?_)
    ·have h3':k.kind=2:=of_decide_eq_true h3
     simp -dsimp only [go_sem,gS,h3,hr2,rdA,hk,hlt,Tok.d,Tok.cs,hw,hw2,rset,er4,er4',uF]
     have hv:xN (f+1) l n s=(.mk true k.text [],⟨(yD l n s).pos+1,(yD l n s).err⟩):=by simp [xN,zAr,he,hk,h3']
     rw [hv] at hK
     refine zZ ?_
     simp -dsimp only [go_sem,gS]
     refine zB ?_ (zC hK)
     exact zO (hfr _) (jF (zO hb4 (.refl _)))
    ·have h3':¬ k.kind=2:=of_decide_eq_false h3
     simp -dsimp only [go_sem,gS,h3]
     exact key (by simp [zAr,he,hk,h3'])
  case rest =>
   intro hvt
   refine uX _ r l _ kInt h2 _ ?_
   rw [jI]
   cases hg:(rgot l kInt (yD l n s)).1 with
   | true =>
    have hv:xN (f+1) l n s=(.mk false kInt [],(rgot l kInt (yD l n s)).2):=by simp [xN,hvt,hg]
    rw [hv] at hK
    have hg4:rset (upd H b4 (.var [.d (.bool false),.d (.str ⟨#[]⟩),.nils])) r l (rgot l kInt (yD l n s)).2 b4=some (.var [.d (.bool false),.d (.str ⟨#[]⟩),.nils]):=by
     rw [rset,xI _ _ (Ne.symm (of_decide_eq_false er4)),zV]
    simp -dsimp only [go_sem,gS,hg4]
    refine zZ ?_
    simp -dsimp only [go_sem,gS]
    refine zB ?_ (zC hK)
    exact zO (hfr _) (jF (zO hb4 (.refl _)))
   | false =>
   have hval:xN (f+1) l n s=(.mk false (zS l 1 (yD l n s)).1 (yC (xN f l (n+1)) l 10 [] (zS l 1 (yD l n s)).2).1,(yC (xN f l (n+1)) l 10 [] (zS l 1 (yD l n s)).2).2):=by simp [xN,hvt,hg]
   rw [hval] at hK
   rw [zT hg]
   simp -dsimp only [go_sem,gS]
   refine zAY _ r l _ 1 h2 _ ?_
   rw [jI]
   have h3:=h1.to (s':=(zS l 1 (yD l n s)).2) (wJ (by rw [vO]; exact h.le))
   have hw65:(zS l 1 (yD l n s)).2.err=0→n+1≤66:=fun h0=>by
    have:=(zBy h0).2.2
    by_cases hx:64 < n
    ·rw [zCW hx] at this; cases this
    ·omega
   clear hval h2 hr2
   generalize (zS l 1 (yD l n s)).1=w at hK ⊢
   generalize (zS l 1 (yD l n s)).2=S3 at hK h3 hw65 ⊢
   simp -dsimp only [go_sem,gS]
   refine yL (fun b5 hb5 hn5 hm5=>?_)
   have er5:eqn r b5=false:=hn5 r (by rw [h3.at_]; rfl)
   have e45:eqn b4 b5=false:=hn5 b4 (by rw [rset,xI _ _ (Ne.symm (of_decide_eq_false er4)),zV]; rfl)
   have er4':r≠b4:=of_decide_eq_false er4
   have er5':r≠b5:=of_decide_eq_false er5
   have e45':b4≠b5:=of_decide_eq_false e45
   have hw:=qT (k:=n) (by omega)
   simp -dsimp only [go_sem,gS,uF]
   generalize hZ:upd H b4 (.var [.d (.bool false),.d (.str ⟨#[]⟩),.nils])=Z at h1 h3 hb5 hn5 hm5 ⊢
   have hZ4:Z b4=some (.var [.d (.bool false),.d (.str ⟨#[]⟩),.nils]):=by rw [←hZ,zV]
   have hHZ:LeH H Z:=by rw [←hZ]; exact zO hb4 (.refl _)
   have hZ5:∀ s',rset Z r l s' b5=none:=fun s'=>by
    rw [rset,xI _ _ (Ne.symm er5')] at hb5 ⊢; exact hb5
   have hTr:∀ s1 a,upd (rset Z r l s1) b5 (.var [.d (.bool false),.d (.str w),a]) r=some (.var (rdA l s1)):=fun s1 a=>by rw [xI _ _ er5',rset,zV]
   have hT4:∀ s1 a,upd (rset Z r l s1) b5 (.var [.d (.bool false),.d (.str w),a]) b4=some (.var [.d (.bool false),.d (.str ⟨#[]⟩),.nils]):=fun s1 a=>by
    rw [xI _ _ e45',rset,xI _ _ (Ne.symm er4'),hZ4]
   have hTs:∀ s1 s2 a,upd (upd (rset Z r l s1) b5 (.var [.d (.bool false),.d (.str w),a])) r (.var (rdA l s2))=upd (rset Z r l s2) b5 (.var [.d (.bool false),.d (.str w),a]):=fun s1 s2 a=>by
    rw [zDL (Ne.symm er5'),rset,uF]; rfl
   refine yP (X:=Nat×List Ty×RdS×A) (fun x=>[(0,.ref r 0),(1,.d (.int .i64 n)),(4,.ref b4 0),(5,.ref b5 0)])
    (fun x G=>x.2.2.1.pos≤l.length∧yC (xN f l (n+1)) l x.1 x.2.1 x.2.2.1=yC (xN f l (n+1)) l 10 [] S3∧x.2.1.length+x.1=10∧(x.2.2.1.err=0→x.2.1.length≤8∧n+1≤66) ∧
     AccAt (upd (rset Z r l x.2.2.1) b5 (.var [.d (.bool false),.d (.str w),x.2.2.2])) 63 3 (x.2.1.map Ty.d) x.2.2.2 G) (fun x=>x.1) (10,[],S3,.nils) _
    ⟨h3.le,rfl,rfl,fun h0=>⟨by simp,hw65 h0⟩,.nils ..⟩ (by simp -dsimp only [go_sem,gS]) (.refl _) ?_
   rintro ⟨k,xs,s1,a⟩ G ⟨hpos,hrun,hlen,herr,hacc⟩
   simp only at hpos hrun hlen herr hacc
   have hle:=hacc.le
   have hGr:=hle _ _ (hTr s1 a)
   have hG5:=hle b5 _ (zV ..)
   have hR:RdAt G r l s1:=⟨hGr,h.short,hpos⟩
   have hln:=zDT hacc
   have hlb:lenable Tryz.prog 35 a=true:=zEf hacc zGa
   have hmove:∀ s2,AccAt (upd (rset Z r l s2) b5 (.var [.d (.bool false),.d (.str w),a])) 63 3 (xs.map Ty.d) a (rset G r l s2):=fun s2=>by
    have:=hacc.set (o':=.var (rdA l s2)) (hTr s1 a)
    rw [hTs] at this; exact this
   simp -dsimp only [go_sem,gS,hGr,rdA]
   refine (fun (key2:∀ (s':RdS) (G':Heap),AccAt (upd (rset Z r l s') b5 (.var [.d (.bool false),.d (.str w),a])) 63 3 (xs.map Ty.d) a G'→yC (xN f l (n+1)) l 10 [] S3=(xs,s')→(?T2:Heap→Prop) G')=>?main2) ?rest2
   case main2 =>
    refine zD (fun h4=>?_) (fun h4=>?_)
    ·have h4':s1.err=0:=of_decide_eq_true h4
     obtain ⟨hl8,hn66⟩:=herr h4'
     obtain ⟨k,rfl⟩:∃ k',k=k'+1:=⟨k - 1,by clear key2; omega⟩
     simp -dsimp only [go_sem,gS,h4,hG5,hlb,hln]
     refine zBQ _ r l s1 xs.length hR _ ?_
     have hR2:=hR.to (qN (n:=xs.length) hpos)
     cases hm:(xK l xs.length s1).1 with
     | false =>
      have hfin:yC (xN f l (n+1)) l 10 [] S3=(xs,(xK l xs.length s1).2):=by rw [←hrun]; simp [yC,h4',hm]
      have hm2:=hmove (xK l xs.length s1).2
      simp -dsimp only [go_sem,gS]
      generalize (xK l xs.length s1).2=s2 at hfin hm2 ⊢
      generalize rset G r l s2=G' at hm2 ⊢
      exact key2 s2 G' hm2 hfin
     | true =>
      obtain ⟨he2,hp2,h82⟩:=zAf hm
      have hm2:=hmove (xK l xs.length s1).2
      have hrun':yC (xN f l (n+1)) l k (xs++[(xN f l (n+1) (xK l xs.length s1).2).1]) (xN f l (n+1) (xK l xs.length s1).2).2=yC (xN f l (n+1)) l 10 [] S3:=by
       rw [←hrun]; simp [yC,h4',hm]
      have h8':xs.length=8→(xN f l (n+1) (xK l xs.length s1).2).2.err≠0:=fun h8=>qL (by clear key2; omega) (h82 h8)
      have hpos3:=zGm f (n+1) _ (qN (n:=xs.length) hpos)
      clear hrun hmove he2 hp2 h82 hm
      have hmove:∀ s3,AccAt (upd (rset Z r l s3) b5 (.var [.d (.bool false),.d (.str w),a])) 63 3 (xs.map Ty.d) a (rset (rset G r l (xK l xs.length s1).2) r l s3):=fun s3=>by
       have:=hm2.set (o':=.var (rdA l s3)) (hTr _ a)
       rw [hTs] at this; exact this
      generalize (xK l xs.length s1).2=s2 at hR2 hm2 hrun' h8' hpos3 hmove ⊢
      have hG52:=hm2.le b5 _ (zV ..)
      simp -dsimp only [go_sem,gS,hG52,hw]
      refine zB1 f _ r l s2 (n+1) (by clear key2; omega) hn66 hR2 _ ?_
      have hm3:=hmove (xN f l (n+1) s2).2
      have hG53:=hm3.le b5 _ (zV ..)
      rw [jI] at hm3 hG53 ⊢
      generalize (xN f l (n+1) s2).1=t at hrun' ⊢
      generalize (xN f l (n+1) s2).2=s3 at hm3 hG53 hrun' h8' hpos3 ⊢
      have hcs:=t.cs_length
      simp -dsimp only [go_sem,gS,hG53,Ty.d,hcs]
      refine yO (fun bn vn hbn hnn hmn hvn=>?_)
      have e5n:eqn b5 bn=false:=hnn b5 (by rw [hG53]; rfl)
      simp -dsimp only [go_sem,gS,e5n,hG53,hcs]
      refine jA (hm3.up hbn) ?_ (fun a' H' h'=>?_)
      ·clear key2; simp only [List.length_map,List.length_cons,List.length_nil]; omega
      have hH5:=h'.le b5 _ (zV ..)
      obtain ⟨hag,hac⟩:=h'.one
      simp -dsimp only [go_sem,gS,hH5,hag,hac]
      refine zP (k,xs++[t],s3,a') _ ⟨hpos3,hrun', ?_, ?_, ?_⟩ ?_ (by simp -dsimp only [go_sem,gS]) (.refl _)
      ·clear key2; simp only [List.length_append,List.length_cons,List.length_nil]; omega
      ·intro h0
       refine ⟨?_,Nat.le_of_succ_le_succ hn66⟩
       have:xs.length≠8:=fun h8=>h8' h8 h0
       clear key2; simp only [List.length_append,List.length_cons,List.length_nil]; omega
      ·have:=h'.set (o':=.var [.d (.bool false),.d (.str w),a']) (zV ..)
       rw [uF] at this
       simpa [Ty.d] using this
      ·exact Nat.lt_succ_self k
    ·have h4':s1.err≠0:=of_decide_eq_false h4
     simp -dsimp only [go_sem,gS,h4]
     exact key2 s1 G hacc (by rw [←hrun]; exact yJ h4')
   case rest2 =>
    intro s' G' hacc' hfin
    have hle':=hacc'.le
    have hG5':=hle' b5 _ (zV ..)
    have hG4':=hle' b4 _ (hT4 s' a)
    have hal:allD [a]=none:=hacc'.allD
    simp -dsimp only [go_sem,gS,hG5',hG4',hal,uF]
    refine zZ ?_
    simp -dsimp only [go_sem,gS]
    have hset:=hacc'.set (o':=.var [.d (.bool false),.d (.str w),a]) (hT4 s' a)
    refine AccAt.deep hset (fun H3 h3'=>?_)
    simp -dsimp only [go_sem,gS]
    rw [hfin] at hK
    refine zB (G:=rset H r l s') ?_ (zC ?_)
    ·refine LeH.trans ?_ h3'
     have hb:LeH (rset H r l s') (rset Z r l s'):=jF hHZ
     exact zO (hfr s') (zO (hb.free (hZ5 s')) hb)
    ·rw [show Ty.d (Ty.mk false w xs)=.agg [.bool false,.str w,.slice (xs.map Ty.d)] by simp only [Ty.d,Ty.cs,Ty.ds_map]] at hK
     exact hK
end Go.Aug

/- Walks of ParE. -/
namespace Go.Aug
open Go.Proofs
set_option maxRecDepth 100000
set_option linter.unusedSimpArgs false
end Go.Aug

/- Walks of ParG. -/
namespace Go.Aug
open Go.Proofs
set_option maxRecDepth 100000
set_option linter.unusedSimpArgs false
attribute [local irreducible] hid andK letA zR wN xX yH xR xE wR idxA ldV ldD addO xD appTo wF slA srcK nilQ retW gif sgd yT svc sops xQ yX aopO xT yU aBin aUn wK aLen zL yW zI yG xC yF yZ zJ zM yV zX yE xG xU frzM putE newK newV wP ACall xH wD zW sret cnd szs nilC yK zQ yA
attribute [local go_sem] Int.natCast_zero
set_option maxHeartbeats 4000000 in
theorem zD9 {eb:EbG} (l:List Tok) (n:Nat) (p:RdS→Gl×RdS) (hp:vI l p)
  (hprim:∀ (H:Heap) (r:Nat) (s:RdS),RdAt H r l s→∀ K:A→Heap→Prop,K (.d (p s).1.d) (rset H r l (p s).2)→ACall Tryz.prog (zK eb) 119 [.ref r 0,.d (.int .i64 n)] H K)
  (H:Heap) (r:Nat) (s:RdS) (h:RdAt H r l s) (K:A→Heap→Prop) (hK:K (.d (uQ p l s).1.d) (rset H r l (uQ p l s).2)):ACall Tryz.prog (zK eb) 91 [.ref r 0,.d (.int .i64 n)] H K:=by
 refine ACall.by mixed fn91 (by simp) ?_
 conv in s91=>cbv
 refine zG ?_
 simp -dsimp only [go_sem,gS]
 refine yL (fun b4 hb4 hn4 hm4=>?_)
 have er4:eqn r b4=false:=hn4 r (by rw [h.at_]; rfl)
 simp -dsimp only [go_sem,gS]
 refine yO (fun b5 v5 hb5 hn5 hm5 hv5=>?_)
 have er5:eqn r b5=false:=hn5 r (by rw [xI _ _ (of_decide_eq_false er4),h.at_]; rfl)
 have e45:eqn b4 b5=false:=hn5 b4 (by rw [zV]; rfl)
 simp -dsimp only [go_sem,gS]
 have h1:RdAt (upd H b4 (.var zDv)) r l s:=⟨by rw [xI _ _ (of_decide_eq_false er4)]; exact h.at_,h.short,h.le⟩
 have hfr:∀ s',rset H r l s' b4=none:=fun s'=>by rw [rset,xI _ _ (Ne.symm (of_decide_eq_false er4))]; exact hb4
 generalize hZ:upd H b4 (.var zDv)=Z at h1
 have hZ4:Z b4=some (.var zDv):=by rw [←hZ,zV]
 have hHZ:LeH H Z:=by rw [←hZ]; exact zO hb4 (.refl _)
 have hZ5:Z b5=none:=by rw [←hZ]; exact hb5
 have er4':r≠b4:=of_decide_eq_false er4
 have er5':r≠b5:=of_decide_eq_false er5
 refine (fun (key:∀ (os':List Gl) (s':RdS) (d':Nat) (v':Value) (G':Heap),AccAt (rset Z r l s') 42 12 (os'.map Gl.d) (.own d' v') G'→rors p l (l.length+1) [] s=(os',s')→(?T:Nat→Value→Heap→Prop) d' v' G')=>?main) ?rest
 case main =>
  refine yP (X:=Nat×List Gl×RdS×Nat×Value) (fun x=>[(0,.ref r 0),(1,.d (.int .i64 n)),(4,.ref b4 0),(5,.own x.2.2.2.1 x.2.2.2.2)])
   (fun x G=>x.2.2.1.pos≤l.length∧rors p l x.1 x.2.1 x.2.2.1=rors p l (l.length+1) [] s∧l.length+1≤x.1+x.2.2.1.pos∧x.2.1.length≤x.2.2.1.pos∧AccAt (rset Z r l x.2.2.1) 42 12 (x.2.1.map Gl.d) (.own x.2.2.2.1 x.2.2.2.2) G)
   (fun x=>x.1) (l.length+1,[],s,b5,v5) _ ⟨h.le,rfl,by simp,by simp, ?_⟩ (by simp -dsimp only [go_sem,gS]) (.refl _) ?_
  ·have:upd H b4 (.var zDv)=rset Z r l s:=by rw [hZ,h1.self]
   rw [show (upd H b4 (AObj.var [A.d (D.int IntKind.i64 0),A.d (D.int IntKind.i64 0),A.d (D.str { data:=#[] }),A.d (D.int IntKind.i64 0),A.nils,A.d (D.int IntKind.i64 0),A.d (D.str { data:=#[] }),A.d (D.int IntKind.i64 0),A.nils,A.d (D.str { data:=#[] }),A.nils,A.nils]))=rset Z r l s from this]
   exact AccAt.own (zO (by rw [←this]; exact hb5) (.refl _)) (by rw [←this]; exact hb5) hv5 (zV ..)
  rintro ⟨k,os,s1,d5,w5⟩ G ⟨hpos,hrun,hfuel,hol,hacc⟩
  simp only at hpos hrun hfuel hol hacc
  have hle:=hacc.le
  have hGr:G r=some (.var (rdA l s1)):=hle _ _ (by rw [rset,zV])
  have hR:RdAt G r l s1:=⟨hGr,h.short,hpos⟩
  simp -dsimp only [go_sem,gS,hGr,rdA]
  have hmove:∀ s2,AccAt (rset Z r l s2) 42 12 (os.map Gl.d) (.own d5 w5) (rset G r l s2):=fun s2=>by
   have:=hacc.set (b:=r) (o':=.var (rdA l s2)) (by rw [rset,zV])
   rw [rset,uF] at this
   exact this
  obtain ⟨hZd,hw5,hGd⟩:(∀ s',rset Z r l s' d5=none)∧w5.ownBlock=some d5∧G d5=some (.arr 42 12 w5 (os.map Gl.d)):=by
   rcases hacc.2 with ⟨_,hh⟩ | ⟨d,v,hh,h1,h2,h3⟩
   ·cases hh
   ·cases hh
    refine ⟨fun s'=>?_,h2,h3⟩
    have:d5≠r:=by rintro rfl; rw [rset,zV] at h1; cases h1
    rw [rset,xI _ _ this] at h1 ⊢; exact h1
  refine zD (fun h2=>?_) (fun h2=>?_)
  ·have h2':s1.err=0:=of_decide_eq_true h2
   obtain ⟨k,rfl⟩:∃ k',k=k'+1:=⟨k - 1,by clear key; omega⟩
   simp -dsimp only [go_sem,gS,h2]
   refine hprim _ r s1 hR _ ?_
   have hm2:=hmove (p s1).2
   have hR2:=hR.to (hp.le s1 hpos)
   have hge2:=hp.ge s1
   have hcs:=(p s1).1.cs_length
   simp -dsimp only [go_sem,gS,Gl.d,hcs]
   refine yO (fun b6 v6 hb6 hn6 hm6 hv6=>?_)
   simp -dsimp only [go_sem,gS]
   refine yP (X:=Nat×List Gl×RdS×A) (fun x=>[(0,.ref r 0),(1,.d (.int .i64 n)),(4,.ref b4 0),(5,.own d5 w5),(6,x.2.2.2)])
    (fun x G=>x.2.2.1.pos≤l.length∧zAa p l x.1 x.2.1 x.2.2.1=zAa p l l.length [(p s1).1] (p s1).2∧l.length≤x.1+x.2.2.1.pos∧1≤x.2.1.length∧x.2.1.length≤x.2.2.1.pos+1∧s1.pos≤x.2.2.1.pos ∧
     AccAt (upd (rset Z r l x.2.2.1) d5 (.arr 42 12 w5 (os.map Gl.d))) 42 12 (x.2.1.map Gl.d) x.2.2.2 G)
    (fun x=>x.1) (l.length,[(p s1).1],(p s1).2,.own b6 v6) _ ⟨hp.le s1 hpos,rfl,by simp,by simp,by simp,hge2, ?_⟩ (by simp -dsimp only [go_sem,gS]) (.refl _) ?_
   ·have hleN:LeH (upd (rset Z r l (p s1).2) d5 (.arr 42 12 w5 (os.map Gl.d))) (rset G r l (p s1).2):=zP4 hm2.le (by
     rcases hm2.2 with ⟨_,hh⟩ | ⟨d,v,hh,_,_,h3⟩
     ·cases hh
     ·cases hh; exact h3)
    exact AccAt.own (hleN.up hb6) (hleN.free hb6) hv6 (zV ..)
   rintro ⟨q,gs,s3,a6⟩ G3 ⟨hpos3,hrun3,hfuel3,hg1,hgl,hge3,hacc3⟩
   simp only at hpos3 hrun3 hfuel3 hg1 hgl hge3 hacc3
   have hG3r:G3 r=some (.var (rdA l s3)):=hacc3.le _ _ (by
    have:r≠d5:=by rintro rfl; have:=hZd s1; rw [rset,zV] at this; cases this
    rw [xI _ _ this,rset,zV])
   have hR3:RdAt G3 r l s3:=⟨hG3r,h.short,hpos3⟩
   simp -dsimp only [go_sem,gS]
   refine uX _ r l s3 wM hR3 _ ?_
   cases hg:(rgot l wM s3).1 with
   | true =>
    obtain ⟨he3,hp4,hlt3⟩:=wA hg
    obtain ⟨q,rfl⟩:∃ q',q=q'+1:=⟨q - 1,by clear key; omega⟩
    have hrun4:zAa p l q (gs++[(p (rgot l wM s3).2).1]) (p (rgot l wM s3).2).2=zAa p l l.length [(p s1).1] (p s1).2:=by
     rw [←hrun3]; simp [zAa,hg]
    have hle4:=yQ (t:=wM) hpos3
    have hR4:=hR3.to hle4
    have hmove4:∀ s4,AccAt (upd (rset Z r l s4) d5 (.arr 42 12 w5 (os.map Gl.d))) 42 12 (gs.map Gl.d) a6 (rset G3 r l s4):=fun s4=>by
     have hne:d5≠r:=by rintro rfl; have:=hZd s1; rw [rset,zV] at this; cases this
     have:=hacc3.set (b:=r) (o':=.var (rdA l s4)) (by rw [xI _ _ (Ne.symm hne),rset,zV])
     rw [zDL hne,rset,uF] at this
     exact this
    generalize (rgot l wM s3).2=s4 at hrun4 hp4 hle4 hR4 ⊢
    simp -dsimp only [go_sem,gS]
    refine hprim _ r s4 hR4 _ ?_
    rw [jI]
    have hm5:=hmove4 (p s4).2
    have hle5:=hp.le s4 hle4
    have hge5:=hp.ge s4
    generalize (p s4).1=t at hrun4 ⊢
    generalize (p s4).2=s5 at hrun4 hm5 hle5 hge5 ⊢
    have hcs':=t.cs_length
    simp -dsimp only [go_sem,gS,Gl.d,hcs']
    refine yO (fun b7 v7 hb7 hn7 hm7 hv7=>?_)
    simp -dsimp only [go_sem,gS,hcs']
    refine jA (hm5.up hb7) ?_ (fun a' H' h'=>?_)
    ·have:=h.short
     clear key; simp only [List.length_map,List.length_cons,List.length_nil]; omega
    simp -dsimp only [go_sem,gS]
    refine zP (q,gs++[t],s5,a') _ ⟨hle5,hrun4, ?_, ?_, ?_, ?_,by simpa [Gl.d] using h'⟩ (Nat.lt_succ_self q) (by simp -dsimp only [go_sem,gS]) (.refl _)
    ·clear key; simp only; omega
    ·simp
    ·clear key; simp only [List.length_append,List.length_cons,List.length_nil]; omega
    ·clear key; simp only; omega
   | false =>
    rw [zT hg,hR3.self]
    have hfin3:zAa p l l.length [(p s1).1] (p s1).2=(gs,s3):=by
     rw [←hrun3]; cases q with
     | zero=>rfl
     | succ q=>simp [zAa,hg]
    obtain ⟨d6,w6,rfl,hN6,hw6,hG6⟩:=hacc3.some (by intro h0; rw [List.map_eq_nil_iff] at h0; rw [h0] at hg1; simp at hg1)
    have hN6':=(upd_eq_none.1 hN6)
    have hG35:G3 d5=some (.arr 42 12 w5 (os.map Gl.d)):=hacc3.le d5 _ (zV ..)
    have hleZ:LeH (rset Z r l s3) G3:=(zO (hZd s3) (.refl _)).trans hacc3.le
    have e56:eqn d5 d6=false:=decide_eq_false (Ne.symm hN6'.1)
    have e65:eqn d6 d5=false:=decide_eq_false hN6'.1
    simp -dsimp only [go_sem,gS,hG6]
    refine (fun (key2:∀ (d':Nat) (v':Value) (H':Heap),AccAt (rset Z r l s3) 42 12 ((os++[zA0 gs]).map Gl.d) (.own d' v') H'→(?T2:Nat→Value→Heap→Prop) d' v' H')=>?main2) ?rest2
    case main2 =>
     refine zD (fun h3=>?_) (fun h3=>?_)
     ·have h3':1 < gs.length:=by have:=of_decide_eq_true h3; clear key key2; omega
      simp -dsimp only [go_sem,gS,hG6,e56,e65]
      refine yO (fun b7 v7 hb7 hn7 hm7 hv7=>?_)
      have e57:eqn d5 b7=false:=hn7 d5 (by rw [xI _ _ (of_decide_eq_false e56),hG35]; rfl)
      simp -dsimp only [go_sem,gS,e57,e56,hG35]
      have hle7:LeH (rset Z r l s3) (upd G3 d6 (.frz w6 (gs.map Gl.d))):=zO hN6'.2 hleZ
      refine zA (by have:=h.short; clear key key2; omega) ?_
      refine qR (fun b8 v8 hb8 hn8 hm8 hv8=>?_)
      simp -dsimp only [go_sem,gS]
      have hall:Gl.d (zA0 gs)=.agg [.int .i64 5,.int .i64 0,.str ⟨#[]⟩,.int .i64 0,.slice [],.int .i64 0,.str ⟨#[]⟩,.int .i64 0,.slice [],.str ⟨#[]⟩,.slice [],.slice (gs.map Gl.d)]:=by
       simp [zA0,h3',Gl.d,Gl.cs,Tm.none,Tm.cs,Tm.ds,Gl.ds_map]
      have hacc8:=AccAt.own (E:=42) (sz:=12) (l:=(os++[zA0 gs]).map Gl.d) (b:=b8) (v:=v8) (G:=rset Z r l s3) (H:=upd (del (upd (upd G3 d6 (.frz w6 (gs.map Gl.d))) b7 (.arr 42 12 v7 [Gl.d (zA0 gs)])) d5) b8 (.arr 42 12 v8 (os.map Gl.d++[Gl.d (zA0 gs)])))
       (zIQ (hle7.up hb7) (hZd s3) (by rw [hall]; exact hb8)) (zG1 (hle7.up hb7) hb8 (hZd s3)) hv8 (by rw [zV,List.map_append]; rfl)
      rw [hall] at hacc8
      generalize upd (del (upd (upd G3 d6 (AObj.frz w6 (gs.map Gl.d))) b7 _) d5) b8 _=H' at hacc8 ⊢
      exact key2 b8 v8 H' hacc8
     ·have h3':¬ 1 < gs.length:=by have:=of_decide_eq_false h3; clear key key2; omega
      obtain ⟨g0,rfl⟩:∃ g0,gs=[g0]:=by
       rcases gs with _ | ⟨g0,_ | ⟨g1,gs⟩⟩
       ·simp at hg1
       ·exact ⟨g0,rfl⟩
       ·simp at h3'
      simp only [List.map_cons,List.map_nil] at hG6
      have hcs0:=g0.cs_length
      have htk:g0.cs.take 12=g0.cs:=by exact List.take_of_length_le (by rw [hcs0]; exact Nat.le_refl _)
      have ht0:Int.toNat 0=0:=rfl
      simp -dsimp only [go_sem,gS,hG6,Gl.d,hcs0,List.drop_zero,htk,ht0,List.length_cons,List.length_nil,List.getElem?_cons_zero]
      refine yO (fun b7 v7 hb7 hn7 hm7 hv7=>?_)
      have e57:eqn d5 b7=false:=hn7 d5 (by rw [hG35]; rfl)
      simp -dsimp only [go_sem,gS,e57,hG35,hcs0]
      refine zA (by have:=h.short; clear key key2; omega) ?_
      refine qR (fun b8 v8 hb8 hn8 hm8 hv8=>?_)
      simp -dsimp only [go_sem,gS]
      have hall:Gl.d (zA0 [g0])=.agg g0.cs:=rfl
      have hacc8:=AccAt.own (E:=42) (sz:=12) (l:=(os++[zA0 [g0]]).map Gl.d) (b:=b8) (v:=v8) (G:=rset Z r l s3) (H:=upd (del (upd G3 b7 (.arr 42 12 v7 [Gl.d (zA0 [g0])])) d5) b8 (.arr 42 12 v8 (os.map Gl.d++[Gl.d (zA0 [g0])])))
       (zIQ (hleZ.up hb7) (hZd s3) (by rw [hall]; exact hb8)) (zG1 (hleZ.up hb7) hb8 (hZd s3)) hv8 (by rw [zV,List.map_append]; rfl)
      rw [hall] at hacc8
      generalize upd (del (upd G3 b7 _) d5) b8 _=H' at hacc8 ⊢
      exact key2 b8 v8 H' hacc8
    case rest2 =>
     intro d' v' H' hacc'
     have hH'r:H' r=some (.var (rdA l s3)):=hacc'.le _ _ (by rw [rset,zV])
     have hR':RdAt H' r l s3:=⟨hH'r,h.short,hpos3⟩
     refine uX _ r l s3 zAl hR' _ ?_
     have hway:rway p l s1=(zA0 gs,s3):=by simp only [rway,hfin3]
     cases hg5:(rgot l zAl s3).1 with
     | true =>
      obtain ⟨he6,hp6,hlt6⟩:=wA hg5
      have hrun':rors p l k (os++[zA0 gs]) (rgot l zAl s3).2=rors p l (l.length+1) [] s:=by rw [←hrun]; simp [rors,h2',hway,hg5]
      have hle6:=yQ (t:=zAl) hpos3
      have hmv:=hacc'.set (b:=r) (o':=.var (rdA l (rgot l zAl s3).2)) (by rw [rset,zV])
      rw [rset,uF] at hmv
      simp -dsimp only [go_sem,gS]
      refine zP (k,os++[zA0 gs],(rgot l zAl s3).2,d',v') _ ⟨hle6,hrun', ?_, ?_,hmv⟩ (Nat.lt_succ_self k) (by simp -dsimp only [go_sem,gS]) (.refl _)
      ·clear key; simp only; omega
      ·clear key; simp only [List.length_append,List.length_cons,List.length_nil]; omega
     | false =>
      rw [zT hg5,hR'.self]
      simp -dsimp only [go_sem,gS]
      exact key (os++[zA0 gs]) s3 d' v' H' hacc' (by rw [←hrun]; simp [rors,h2',hway,hg5])
  ·have h2':s1.err≠0:=of_decide_eq_false h2
   simp -dsimp only [go_sem,gS,h2]
   have hfin:rors p l (l.length+1) [] s=(os,s1):=by
    rw [←hrun]; cases k with
    | zero=>rfl
    | succ k=>simp [rors,h2']
   exact key os s1 d5 w5 G hacc hfin
 case rest =>
  intro os s' d v G hacc hfin
  obtain ⟨hdn,hv,hGd⟩:rset Z r l s' d=none∧v.ownBlock=some d∧G d=some (.arr 42 12 v (os.map Gl.d)):=by
   rcases hacc.2 with ⟨_,hh⟩ | ⟨d',v',hh,h1,h2,h3⟩
   ·cases hh
   ·cases hh; exact ⟨h1,h2,h3⟩
  have hle:=hacc.le
  have hZ4':rset Z r l s' b4=some (.var zDv):=by rw [rset,xI _ _ (Ne.symm er4'),hZ4]
  have hG4:=hle b4 _ hZ4'
  have hbase:∀ o,LeH (rset H r l s') (upd (rset Z r l s') b4 o):=fun o=>zO (hfr s') (jF hHZ)
  simp only [uQ,hfin] at hK
  have e4d:eqn b4 d=false:=decide_eq_false (by rintro rfl; rw [hdn] at hZ4'; cases hZ4')
  have ed4:eqn d b4=false:=decide_eq_false (by rintro rfl; rw [hdn] at hZ4'; cases hZ4')
  simp -dsimp only [go_sem,gS,hGd]
  refine zD (fun h2=>?_) (fun h2=>?_)
  ·have h2':os.length=1:=by have:=of_decide_eq_true h2; omega
   obtain ⟨g0,rfl⟩:∃ g0,os=[g0]:=List.length_eq_one_iff.1 h2'
   simp only [List.map_cons,List.map_nil] at hGd
   have hcs0:=g0.cs_length
   have htk:g0.cs.take 12=g0.cs:=List.take_of_length_le (by rw [hcs0]; exact Nat.le_refl _)
   have ht0:Int.toNat 0=0:=rfl
   have hres:resD (some (.var (yB zDv 0 (g0.cs.map A.d)))) 0 (some (true,12))=some (.d (.agg g0.cs)):=by
    have hsm:yB zDv 0 (g0.cs.map A.d)=g0.cs.map A.d:=by
     simp [yB,hcs0,zDv]
    rw [hsm,zOx (by simp [hcs0]),List.drop_zero,List.take_of_length_le (by simp [hcs0])]
    simp [aggN,zIv]
   simp only [zDv] at hres
   simp -dsimp only [go_sem,gS,hGd,Gl.d,hcs0,List.drop_zero,htk,ht0,List.length_cons,List.length_nil,List.getElem?_cons_zero,hG4,zDv,hres]
   refine zB (G:=rset H r l s') ((hbase _).trans (jF hle)) (zC ?_)
   simpa [zJv,Gl.d] using hK
  ·have h2':¬ os.length=1:=by have:=of_decide_eq_false h2; omega
   simp -dsimp only [go_sem,gS,hGd,hG4,zDv]
   refine zZ ?_
   simp -dsimp only [go_sem,gS,hGd,ed4,e4d]
   have hd4:rset H r l s' d=none:=(show LeH (rset H r l s') (rset Z r l s') from jF hHZ).free hdn
   refine zB (G:=rset H r l s') ?_ (zC ?_)
   ·exact zO hd4 ((hbase _).trans (jF hle))
   ·have hall:Gl.d (zJv os)=.agg [.int .i64 6,.int .i64 0,.str ⟨#[]⟩,.int .i64 0,.slice [],.int .i64 0,.str ⟨#[]⟩,.int .i64 0,.slice [],.str ⟨#[]⟩,.slice [],.slice (os.map Gl.d)]:=by
     simp [zJv,h2',Gl.d,Gl.cs,Tm.none,Tm.cs,Tm.ds,Gl.ds_map]
    rw [hall] at hK
    exact hK

theorem zEq {eb:EbG} (l:List Tok):∀ (f:Nat) (n:Nat) (_:67≤f+n) (_:n≤65) (H:Heap) (r:Nat) (s:RdS) (_:RdAt H r l s) (K:A→Heap→Prop) (_:K (.d (xP f l n s).1.d) (rset H r l (xP f l n s).2)),
  ACall Tryz.prog (zK eb) 119 [.ref r 0,.d (.int .i64 n)] H K
 | 0,n,hf,hn,H,r,s,h,K,hK=>by omega
 | f+1,n,hf,hn,H,r,s,h,K,hK=>by
  refine ACall.hp_in h.at_ ?_
  refine ACall.by mixed zXv (by simp) ?_
  conv in s119=>cbv
  refine zG ?_
  simp -dsimp only [go_sem,gS]
  refine yI (fun b4 f4=>?_)
  simp only [zN,zU] at f4
  simp -dsimp only [go_sem,gS]
  refine zH0 _ r l s n (h.len h.le (by simp only [hpS,eq_self,implies_true,f4])) _ ?_
  have hle0:(yD l n s).pos≤l.length:=by rw [vO]; exact h.le
  have hdeep:∀ t,(rgot l t (yD l n s)).1=true→n≤64:=fun t ht=>zLz ht
  simp only [xP] at hK
  simp -dsimp only [go_sem,gS,f4]
  refine uX _ r l _ kX (h.len hle0 (by simp only [hpS,eq_self,implies_true,f4])) _ ?_
  have hend:∀ s' o,LeH (rset H r l s') (hp H [(r,.var (rdA l s')),(b4,o)]):=fun s' o=>(yM (l1:=[(r,.var (rdA l s'))]) (by simp only [hpS,eq_self,implies_true,f4]) (by simp only [hpS,eq_self,implies_true,f4]))
  have hw:=qT (k:=n) (by omega)
  cases hg1:(rgot l kX (yD l n s)).1 with
  | true =>
   simp only [hg1,if_true] at hK
   simp -dsimp only [go_sem,gS,f4,zDv]
   refine zZ ?_
   simp -dsimp only [go_sem,gS,f4]
   refine zB (hend _ _) (zC ?_)
   rw [Gl.none_d] at hK; exact hK
  | false =>
   simp only [hg1,Bool.false_eq_true,if_false] at hK
   rw [zT hg1]
   simp -dsimp only [go_sem,gS,f4]
   refine uX _ r l _ kU (h.len hle0 (by simp only [hpS,eq_self,implies_true,f4])) _ ?_
   cases hg2:(rgot l kU (yD l n s)).1 with
   | true =>
    simp only [hg2,if_true] at hK
    simp -dsimp only [go_sem,gS,f4]
    refine zZ ?_
    simp -dsimp only [go_sem,gS,f4]
    refine zB (hend _ _) (zC ?_)
    rw [Gl.none_d] at hK; exact hK
   | false =>
    simp only [hg2,Bool.false_eq_true,if_false] at hK
    rw [zT hg2]
    simp -dsimp only [go_sem,gS,f4]
    refine uX _ r l _ kNot (h.len hle0 (by simp only [hpS,eq_self,implies_true,f4])) _ ?_
    cases hg3:(rgot l kNot (yD l n s)).1 with
    | true =>
     simp only [hg3,if_true] at hK
     have hn64:=hdeep _ hg3
     simp -dsimp only [go_sem,gS,f4,hw]
     refine zEq l f (n+1) (by omega) (by omega) _ r _ (h.len (yQ (t:=kNot) hle0) (by simp only [hpS,eq_self,implies_true,f4])) _ ?_
     generalize (xP f l (n+1) (rgot l kNot (yD l n s)).2).1=g at hK ⊢
     generalize (xP f l (n+1) (rgot l kNot (yD l n s)).2).2=s' at hK ⊢
     have hcs:=g.cs_length
     simp -dsimp only [go_sem,gS,f4,Gl.d,hcs]
     refine vD (fun b5 v5 f5 w5=>?_)
     simp only [zN,zU] at f5
     simp -dsimp only [go_sem,gS,f4,f5]
     refine zZ ?_
     simp -dsimp only [go_sem,gS,f4,f5]
     refine zB (G:=rset H r l s') (yM (l1:=[(r,.var (rdA l s'))]) (by simp only [hpS,eq_self,implies_true,f4,f5]) (by simp only [hpS,eq_self,implies_true,f4,f5])) (zC ?_)
     have hall:Gl.d (.mk 7 .none .none ⟨#[]⟩ [] [g])=.agg [.int .i64 7,.int .i64 0,.str ⟨#[]⟩,.int .i64 0,.slice [],.int .i64 0,.str ⟨#[]⟩,.int .i64 0,.slice [],.str ⟨#[]⟩,.slice [],.slice [.agg g.cs]]:=by
      simp [Gl.d,Gl.cs,Tm.none,Tm.cs,Tm.ds,Gl.ds]
     rw [hall] at hK; exact hK
    | false =>
     simp only [hg3,Bool.false_eq_true,if_false] at hK
     rw [zT hg3]
     simp -dsimp only [go_sem,gS,f4]
     refine uX _ r l _ vT (h.len hle0 (by simp only [hpS,eq_self,implies_true,f4])) _ ?_
     cases hg4:(rgot l vT (yD l n s)).1 with
     | true =>
      simp only [hg4,if_true] at hK
      have hn64:=hdeep _ hg4
      simp -dsimp only [go_sem,gS,f4,hw]
      refine term_ok f _ r l _ (n+1) (by omega) (by omega) (h.len (yQ (t:=vT) hle0) (by simp only [hpS,eq_self,implies_true,f4])) _ ?_
      generalize (yS f l (n+1) (rgot l vT (yD l n s)).2).1=t at hK ⊢
      generalize (yS f l (n+1) (rgot l vT (yD l n s)).2).2=s' at hK ⊢
      obtain ⟨k1,n1,i1,x1⟩:=t
      simp -dsimp only [go_sem,gS,f4,Tm.d,Tm.cs]
      refine zZ ?_
      simp -dsimp only [go_sem,gS,f4]
      refine zB (hend _ _) (zC ?_)
      have hall:Gl.d (.mk 8 (.mk k1 n1 i1 x1) .none ⟨#[]⟩ [] [])=.agg [.int .i64 8,.int .i64 k1,.str n1,.int .i64 i1,.slice (Tm.ds x1),.int .i64 0,.str ⟨#[]⟩,.int .i64 0,.slice [],.str ⟨#[]⟩,.slice [],.slice []]:=by
       simp [Gl.d,Gl.cs,Tm.none,Tm.cs,Tm.ds,Gl.ds]
      rw [hall] at hK; exact hK
     | false =>
      simp only [hg4,Bool.false_eq_true,if_false] at hK
      rw [zT hg4]
      simp -dsimp only [go_sem,gS,f4]
      refine uX _ r l _ kTry (h.len hle0 (by simp only [hpS,eq_self,implies_true,f4])) _ ?_
      cases hg5:(rgot l kTry (yD l n s)).1 with
      | true =>
       simp only [hg5,if_true] at hK
       have hn64:=hdeep _ hg5
       simp -dsimp only [go_sem,gS,f4,hw]
       refine yI (fun b5 f5=>?_)
       simp only [zN,zU] at f5
       simp -dsimp only [go_sem,gS,f4,f5,hw]
       have hle5:=yQ (t:=kTry) hle0
       refine zEq l f (n+1) (by omega) (by omega) _ r _ (h.len hle5 (by simp only [hpS,eq_self,implies_true,f4,f5])) _ ?_
       have hle6:=(vG l f (n+1)).le _ hle5
       generalize hg:xP f l (n+1) (rgot l kTry (yD l n s)).2=a at hle6 ⊢
       obtain ⟨a,s1⟩:=a
       simp only at hle6
       obtain ⟨x1,x2,x3,x4,x5,x6,x7,x8,x9,x10,x11,x12,hca⟩:=a.opn
       simp -dsimp only [go_sem,gS,f4,f5,Gl.d,hca]
       refine yI (fun b6 f6=>?_)
       simp only [zN,zU] at f6
       simp -dsimp only [go_sem,gS,f4,f5,f6]
       refine zBS _ r l s1 vS (h.len hle6 (by simp only [hpS,eq_self,implies_true,f4,f5,f6])) _ ?_
       have hle7:=wT (t:=vS) hle6
       simp -dsimp only [go_sem,gS,f4,f5,f6]
       refine zAY _ r l _ 2 (h.len hle7 (by simp only [hpS,eq_self,implies_true,f4,f5,f6])) _ ?_
       have hle8:=wJ (kind:=2) hle7
       simp -dsimp only [go_sem,gS,f4,f5,f6]
       refine zBS _ r l _ zAM (h.len hle8 (by simp only [hpS,eq_self,implies_true,f4,f5,f6])) _ ?_
       have hle9:=wT (t:=zAM) hle8
       simp -dsimp only [go_sem,gS,f4,f5,f6,hw]
       refine zEq l f (n+1) (by omega) (by omega) _ r _ (h.len hle9 (by simp only [hpS,eq_self,implies_true,f4,f5,f6])) _ ?_
       simp only [rtry,hg] at hK
       generalize hg2:xP f l (n+1) (yR l zAM (zS l 2 (yR l vS s1)).2)=c at hK ⊢
       obtain ⟨c,s2⟩:=c
       obtain ⟨y1,y2,y3,y4,y5,y6,y7,y8,y9,y10,y11,y12,hcc⟩:=c.opn
       simp -dsimp only [go_sem,gS,f4,f5,f6,hcc,hca,Gl.d]
       refine vD (fun b7 v7 f7 w7=>?_)
       simp only [zN,zU] at f7
       simp -dsimp only [go_sem,gS,f4,f5,f6,f7]
       refine zZ ?_
       simp -dsimp only [go_sem,gS,f4,f5,f6,f7]
       refine zB (G:=rset H r l s2) (yM (l1:=[(r,.var (rdA l s2))]) (by simp only [hpS,eq_self,implies_true,f4,f5,f6,f7]) (by simp only [hpS,eq_self,implies_true,f4,f5,f6,f7])) (zC ?_)
       have hall:Gl.d (.mk 9 .none .none (zS l 2 (yR l vS s1)).1 [] [a,c])=.agg [.int .i64 9,.int .i64 0,.str ⟨#[]⟩,.int .i64 0,.slice [],.int .i64 0,.str ⟨#[]⟩,.int .i64 0,.slice [],.str (zS l 2 (yR l vS s1)).1,.slice [],.slice [.agg a.cs,.agg c.cs]]:=by
        simp [Gl.d,Gl.cs,Tm.none,Tm.cs,Tm.ds,Gl.ds]
       simp only [hall,hca,hcc] at hK; exact hK
      | false =>
       simp only [hg5,Bool.false_eq_true,if_false] at hK
       rw [zT hg5]
       simp -dsimp only [go_sem,gS,f4]
       refine uX _ r l _ kL (h.len hle0 (by simp only [hpS,eq_self,implies_true,f4])) _ ?_
       cases hg6:(rgot l kL (yD l n s)).1 with
       | true =>
        simp only [hg6,if_true] at hK
        have hn64:=hdeep _ hg6
        have hle6:=yQ (t:=kL) hle0
        simp -dsimp only [go_sem,gS,f4,hw]
        refine zD9 l (n+1) (xP f l (n+1)) (vG l f (n+1)) (fun H r s h K hK=>zEq l f (n+1) (by omega) (by omega) H r s h K hK) _ r _ (h.len hle6 (by simp only [hpS,eq_self,implies_true,f4])) _ ?_
        have hle7:=(kH (vG l f (n+1))).le _ hle6
        generalize (uQ (xP f l (n+1)) l (rgot l kL (yD l n s)).2).1=g at hK ⊢
        generalize (uQ (xP f l (n+1)) l (rgot l kL (yD l n s)).2).2=s' at hK hle7 ⊢
        obtain ⟨x1,x2,x3,x4,x5,x6,x7,x8,x9,x10,x11,x12,hca⟩:=g.opn
        simp -dsimp only [go_sem,gS,f4,Gl.d,hca]
        refine yI (fun b7 f7=>?_)
        simp only [zN,zU] at f7
        simp -dsimp only [go_sem,gS,f4,f7]
        refine zBS _ r l s' zBa (h.len hle7 (by simp only [hpS,eq_self,implies_true,f4,f7])) _ ?_
        simp -dsimp only [go_sem,gS,f4,f7]
        refine zB (G:=rset H r l (yR l zBa s')) (yM (l1:=[(r,.var (rdA l (yR l zBa s')))]) (by simp only [hpS,eq_self,implies_true,f4,f7]) (by simp only [hpS,eq_self,implies_true,f4,f7])) (zC ?_)
        simp only [Gl.d,hca] at hK; exact hK
       | false =>
        simp only [hg6,Bool.false_eq_true,if_false] at hK
        rw [zT hg6]
        simp -dsimp only [go_sem,gS,f4,hw]
        have hnt:n+1≤66:=by omega
        refine term_ok f _ r l _ (n+1) (by omega) hnt (h.len hle0 (by simp only [hpS,eq_self,implies_true,f4])) _ ?_
        have hle1:=(vR l f (n+1)).le _ hle0
        simp only [zBf] at hK
        generalize hg:yS f l (n+1) (yD l n s)=a at hK hle1 ⊢
        obtain ⟨⟨ak,an,ai,ax⟩,s1⟩:=a
        simp only at hle1
        simp -dsimp only [go_sem,gS,f4,Tm.d,Tm.cs]
        refine yI (fun b8 f8=>?_)
        simp only [zN,zU] at f8
        simp -dsimp only [go_sem,gS,f4,f8]
        refine uX _ r l s1 kEq (h.len hle1 (by simp only [hpS,eq_self,implies_true,f4,f8])) _ ?_
        cases hg7:(rgot l kEq s1).1 with
        | true =>
         simp only [hg7,if_true] at hK
         simp -dsimp only [go_sem,gS,f4,f8,hw]
         refine term_ok f _ r l _ (n+1) (by omega) hnt (h.len (yQ (t:=kEq) hle1) (by simp only [hpS,eq_self,implies_true,f4,f8])) _ ?_
         generalize hg2:yS f l (n+1) (rgot l kEq s1).2=c at hK ⊢
         obtain ⟨⟨ck,cn,ci,cx⟩,s2⟩:=c
         simp -dsimp only [go_sem,gS,f4,f8,Tm.d,Tm.cs]
         refine zZ ?_
         simp -dsimp only [go_sem,gS,f4,f8]
         refine zB (G:=rset H r l s2) (yM (l1:=[(r,.var (rdA l s2))]) (by simp only [hpS,eq_self,implies_true,f4,f8]) (by simp only [hpS,eq_self,implies_true,f4,f8])) (zC ?_)
         have hall:Gl.d (.mk 3 (.mk ak an ai ax) (.mk ck cn ci cx) ⟨#[]⟩ [] [])=.agg [.int .i64 3,.int .i64 ak,.str an,.int .i64 ai,.slice (Tm.ds ax),.int .i64 ck,.str cn,.int .i64 ci,.slice (Tm.ds cx),.str ⟨#[]⟩,.slice [],.slice []]:=by
          simp [Gl.d,Gl.cs,Tm.cs,Gl.ds]
         simp only [hall] at hK; exact hK
        | false =>
         simp only [hg7,Bool.false_eq_true,if_false] at hK
         rw [zT hg7]
         have hall:Gl.d (.mk 4 .none .none an ax [])=.agg [.int .i64 4,.int .i64 0,.str ⟨#[]⟩,.int .i64 0,.slice [],.int .i64 0,.str ⟨#[]⟩,.int .i64 0,.slice [],.str an,.slice (Tm.ds ax),.slice []]:=by
          simp [Gl.d,Gl.cs,Tm.none,Tm.cs,Tm.ds,Gl.ds,Tm.ds_map]
         simp -dsimp only [go_sem,gS,f4,f8]
         refine zD (fun h3=>?_) (fun h3=>?_)
         ·have h3':ak≠3:=by simpa using h3
          simp only [Tm.name,Tm.args,Tm.kind,h3',↓reduceIte,hall] at hK
          simp -dsimp only [go_sem,gS,f4,f8]
          refine zA6 _ r l s1 2 (h.len hle1 (by simp only [hpS,eq_self,implies_true,f4,f8])) _ ?_
          simp -dsimp only [go_sem,gS,f4,f8]
          refine zZ ?_
          simp -dsimp only [go_sem,gS,f4,f8]
          exact zB (G:=rset H r l (uC 2 s1)) (yM (l1:=[(r,.var (rdA l (uC 2 s1)))]) (by simp only [hpS,eq_self,implies_true,f4,f8]) (by simp only [hpS,eq_self,implies_true,f4,f8])) (zC hK)
         ·have h3':ak=3:=by simpa using h3
          subst h3'
          simp only [Tm.name,Tm.args,Tm.kind,↓reduceIte,hall] at hK
          simp -dsimp only [go_sem,gS,f4,f8]
          refine zZ ?_
          simp -dsimp only [go_sem,gS,f4,f8]
          exact zB (G:=rset H r l s1) (yM (l1:=[(r,.var (rdA l s1))]) (by simp only [hpS,eq_self,implies_true,f4,f8]) (by simp only [hpS,eq_self,implies_true,f4,f8])) (zC hK)
end Go.Aug

/- Walks of ParI. -/
namespace Go.Aug
open Go.Proofs
set_option maxRecDepth 100000
set_option linter.unusedSimpArgs false
end Go.Aug

/- Walks of ParJ. -/
namespace Go.Aug
open Go.Proofs
set_option maxRecDepth 100000
set_option linter.unusedSimpArgs false
attribute [local irreducible] hid andK letA zR wN xX yH xR xE wR idxA ldV ldD addO xD appTo wF slA srcK nilQ retW gif sgd yT svc sops xQ yX aopO xT yU aBin aUn wK aLen zL yW zI yG xC yF yZ zJ zM yV zX yE xG xU frzM putE newK newV wP ACall xH wD zW sret cnd szs nilC yK zQ yA
attribute [local go_sem] Int.natCast_zero
set_option maxHeartbeats 4000000 in
theorem zKB {eb:EbG} (H:Heap) (r:Nat) (l:List Tok) (s:RdS) (h:RdAt H r l s) (K:A→Heap→Prop) (hK:K (.d (vW l s).1.d) (rset H r l (vW l s).2)) :
  ACall Tryz.prog (zK eb) 88 [.ref r 0] H K:=by
 refine ACall.hp_in h.at_ ?_
 refine ACall.by mixed fn88 (by simp) ?_
 conv in s88=>cbv
 refine zG ?_
 simp -dsimp only [go_sem,gS]
 refine yI (fun b4 f4=>?_)
 simp only [zN,zU] at f4
 simp -dsimp only [go_sem,gS,f4]
 refine zAY _ r l s 1 (h.len h.le (by simp only [hpS,eq_self,implies_true,f4])) _ ?_
 have hle1:=wJ (kind:=1) h.le
 simp only [vW] at hK
 generalize (zS l 1 s).1=w at hK ⊢
 generalize (zS l 1 s).2=s1 at hK hle1 ⊢
 simp -dsimp only [go_sem,gS,f4]
 refine yI (fun b5 f5=>?_)
 simp only [zN,zU] at f5
 simp -dsimp only [go_sem,gS,f4,f5]
 refine (fun (key:∀ (xs':List Ty) (s':RdS) (a':A) (R':Heap),Acc H [r,b4,b5] 63 3 (xs'.map Ty.d) a' R'→yC (xN 66 l 1) l 10 [] s1=(xs',s')→(?T:List Ty→RdS→A→Heap→Prop) xs' s' a' R')=>?main) ?rest
 case main =>
  refine yP (X:=RowX Ty) (fun x=>[(0,.ref r 0),(2,.ref b4 0),(3,.ref b5 0)])
   (fun x G=>G=hp x.R [(r,.var (rdA l x.s)),(b4,.var [.d (.str ⟨#[]⟩),.nils]),(b5,.var [.d (.str w),x.a])]∧RowJ H [r,b4,b5] 63 3 Ty.d (xN 66 l 1) l s1 x)
   (fun x=>x.k) ⟨10,[],s1,.nils,H⟩ _ ⟨rfl,RowJ.first hle1⟩ (by simp -dsimp only [go_sem,gS]) (yM (by simp only [hpS,eq_self,implies_true,f4,f5]) (by simp only [hpS,eq_self,implies_true,f4,f5])) ?_
  rintro ⟨k,xs,s2,a,R⟩ G ⟨rfl,hJ⟩
  have hle2:=hJ.le
  have hone:=hJ.acc.one
  have hok:okK [r,b4,b5] R [(r,.var (rdA l s2)),(b4,.var [.d (.str ⟨#[]⟩),.nils]),(b5,.var [.d (.str w),a])]:=by simp only [hpS,eq_self,implies_true,f4,f5]
  simp only at hle2 hone
  simp -dsimp only [go_sem,gS,rdA,f4,f5]
  refine zD (fun h2=>?_) (fun h2=>?_)
  ·have h2':s2.err=0:=of_decide_eq_true h2
   simp -dsimp only [go_sem,gS,f4,f5,h2]
   refine zA (hJ.acc.lenable (by simp -dsimp only [go_sem,gS])) ?_
   rw [hJ.acc.len hok]
   simp -dsimp only [go_sem,gS,f4,f5]
   refine zBQ _ r l s2 xs.length (h.len hle2 (by simp only [hpS,eq_self,implies_true,f4,f5])) _ ?_
   cases hm:(xK l xs.length s2).1 with
   | false =>
    have hfin:=hJ.done h2' hm
    generalize (xK l xs.length s2).2=s3 at hfin ⊢
    simp -dsimp only [go_sem,gS,f4,f5]
    exact key xs s3 a R hJ.acc hfin
   | true =>
    simp -dsimp only [go_sem,gS,f4,f5]
    have hle3:=qN (n:=xs.length) hle2
    refine zB1 66 _ r l _ 1 (by omega) (by omega) (h.len hle3 (by simp only [hpS,eq_self,implies_true,f4,f5])) _ ?_
    have hnext:=fun a' R' hacc=>hJ.next (uM l 66 1) (fun s hs=>qL (by omega) hs) h2' hm (a':=a') (R':=R') hacc
    simp only at hnext
    generalize (xK l xs.length s2).2=s3 at hnext ⊢
    generalize (xN 66 l 1 s3).1=t at hnext ⊢
    generalize (xN 66 l 1 s3).2=s4 at hnext ⊢
    obtain ⟨tv,tn,ta⟩:=t
    simp -dsimp only [go_sem,gS,f4,f5,Ty.d,Ty.cs]
    refine vD (fun b6 v6 f6 w6=>?_)
    simp only [zN,zU] at f6
    simp -dsimp only [go_sem,gS,f4,f5,f6]
    have hsz:=hJ.nine
    simp only at hsz
    refine hJ.acc.appTo (by simp only [hpS,eq_self,implies_true,f4,f5,f6]) (by simp only [hpS,eq_self,implies_true,f4]) (by simp only [List.length_map,List.length_cons,List.length_nil]; omega) (fun a' R' hacc' hn=>?_)
    have hone':=hacc'.one
    have f6':=hn b6 (by simp only [hpS,eq_self,implies_true,f4,f5,f6]) f6.2.2.2.2.2.2
    rw [show xs.map Ty.d++[D.agg [D.bool tv,D.str tn,D.slice (Ty.ds ta)]]=(xs++[Ty.mk tv tn ta]).map Ty.d by simp [Ty.d,Ty.cs]] at hacc'
    simp -dsimp only [go_sem,gS,f4,f5,f6,hone']
    refine zP ⟨k - 1,xs++[.mk tv tn ta],s4,a',R'⟩ _ ⟨rfl,(hnext a' R' hacc').1⟩ (hnext a' R' hacc').2 (by simp -dsimp only [go_sem,gS]) (yM (by simp only [hpS,eq_self,implies_true,f4,f5,f6,f6']) (by simp only [hpS,eq_self,implies_true,f4,f5,f6,f6']))
  ·have h2':s2.err≠0:=of_decide_eq_false h2
   simp -dsimp only [go_sem,gS,f4,f5,h2]
   exact key xs s2 a R hJ.acc (hJ.stop h2')
 case rest =>
  intro xs' s' a' R' hacc hfin
  rw [hfin] at hK
  simp -dsimp only [go_sem,gS,f4,f5,hacc.allD,hacc.one]
  refine zZ ?_
  simp -dsimp only [go_sem,gS,f4,f5]
  refine hacc.deep (by simp only [hpS,eq_self,implies_true,f4,f5]) (fun R'' hle'' hn=>?_)
  simp -dsimp only [go_sem,gS,f4,f5]
  exact zB (G:=rset H r l s') (vB (l1:=[(r,.var (rdA l s'))]) hle'' (by simp only [hpS,eq_self,implies_true,f4,f5]) (by simp only [hpS,eq_self,implies_true,f4,f5])) (zC hK)
end Go.Aug

/- Walks of ParK. -/
namespace Go.Aug
open Go.Proofs
set_option maxRecDepth 100000
set_option linter.unusedSimpArgs false
attribute [local irreducible] hid andK letA zR wN xX yH xR xE wR idxA ldV ldD addO xD appTo wF slA srcK nilQ retW gif sgd yT svc sops xQ yX aopO xT yU aBin aUn wK aLen zL yW zI yG xC yF yZ zJ zM yV zX yE xG xU frzM putE newK newV wP ACall xH wD zW sret cnd szs nilC yK zQ yA
attribute [local go_sem] Int.natCast_zero
set_option maxHeartbeats 16000000 in
theorem item_ok {eb:EbG} (H:Heap) (r:Nat) (l:List Tok) (s:RdS) (h:RdAt H r l s) (K:A→Heap→Prop) (hK:K (.d (uL l s).1.d) (rset H r l (uL l s).2)) :
  ACall Tryz.prog (zK eb) 39 [.ref r 0] H K:=by
 refine ACall.hp_in h.at_ ?_
 refine ACall.by mixed fn39 (by simp) ?_
 conv in s39=>cbv
 refine zG ?_
 simp -dsimp only [go_sem,gS]
 refine yI (fun b2 f2=>?_)
 simp only [zN,zU] at f2
 simp -dsimp only [go_sem,gS,f2]
 refine yI (fun b3 f3=>?_)
 simp only [zN,zU] at f3
 simp -dsimp only [go_sem,gS,f2,f3]
 refine uX _ r l s kY (h.len h.le (by simp only [hpS,eq_self,implies_true,f2,f3])) _ ?_
 have hle0:=h.le
 cases hg1:(rgot l kY s).1 with
 | true =>
  simp only [uL,hg1,if_true,zBj] at hK
  have hle1:=yQ (t:=kY) h.le
  simp -dsimp only [go_sem,gS,f2,f3]
  refine zAY _ r l _ 1 (h.len hle1 (by simp only [hpS,eq_self,implies_true,f2,f3])) _ ?_
  have hle5:=wJ (kind:=1) hle1
  generalize (zS l 1 (rgot l kY s).2).1=w at hK ⊢
  generalize (zS l 1 (rgot l kY s).2).2=s5 at hK hle5 ⊢
  simp -dsimp only [go_sem,gS,f2,f3]

  refine (fun (key:∀ (xs':List ByteArray) (s':RdS) (a':A) (R':Heap),Acc H [r,b2,b3] 9 1 (xs'.map D.str) a' R'→yC (zS l 2) l 10 [] s5=(xs',s')→(?T1:List ByteArray→RdS→A→Heap→Prop) xs' s' a' R')=>?main) ?rest
  case main =>
   refine yP (X:=RowX ByteArray) (fun x=>[(0,.ref r 0),(2,.ref b2 0),(3,.ref b3 0)])
    (fun x G=>G=hp x.R [(r,.var (rdA l x.s)),(b2,.var [.d (.int .i64 0),.d (.str ⟨#[]⟩),.nils,.nils,.nils,.nils,.d (.int .i64 0),.nils,.d (.int .i64 0),.d (.int .i64 0),.d (.str ⟨#[]⟩),.d (.int .i64 0),.nils,.d (.int .i64 0),.d (.str ⟨#[]⟩),.d (.int .i64 0),.nils,.d (.str ⟨#[]⟩),.nils,.nils]),(b3,.var [.d (.int .i64 1),.d (.str w),x.a,.nils,.nils,.nils,.d (.int .i64 0),.nils,.d (.int .i64 0),.d (.int .i64 0),.d (.str ⟨#[]⟩),.d (.int .i64 0),.nils,.d (.int .i64 0),.d (.str ⟨#[]⟩),.d (.int .i64 0),.nils,.d (.str ⟨#[]⟩),.nils,.nils])]∧RowJ H [r,b2,b3] 9 1 D.str (zS l 2) l s5 x)
    (fun x=>x.k) ⟨10,[],s5,.nils,H⟩ _ ⟨rfl,RowJ.first hle5⟩ (by simp -dsimp only [go_sem,gS]) (yM (by simp only [hpS,eq_self,implies_true,f2,f3]) (by simp only [hpS,eq_self,implies_true,f2,f3])) ?_
   rintro ⟨k,xs,s2,a,R⟩ G ⟨rfl,hJ⟩
   have hle2:=hJ.le
   have hone:=hJ.acc.one
   have hok:okK [r,b2,b3] R [(r,.var (rdA l s2)),(b2,.var [.d (.int .i64 0),.d (.str ⟨#[]⟩),.nils,.nils,.nils,.nils,.d (.int .i64 0),.nils,.d (.int .i64 0),.d (.int .i64 0),.d (.str ⟨#[]⟩),.d (.int .i64 0),.nils,.d (.int .i64 0),.d (.str ⟨#[]⟩),.d (.int .i64 0),.nils,.d (.str ⟨#[]⟩),.nils,.nils]),(b3,.var [.d (.int .i64 1),.d (.str w),a,.nils,.nils,.nils,.d (.int .i64 0),.nils,.d (.int .i64 0),.d (.int .i64 0),.d (.str ⟨#[]⟩),.d (.int .i64 0),.nils,.d (.int .i64 0),.d (.str ⟨#[]⟩),.d (.int .i64 0),.nils,.d (.str ⟨#[]⟩),.nils,.nils])]:=by simp only [hpS,eq_self,implies_true,f2,f3]
   simp only at hle2 hone
   simp -dsimp only [go_sem,gS,rdA,f2,f3]
   refine zD (fun h2=>?_) (fun h2=>?_)
   ·have h2':s2.err=0:=of_decide_eq_true h2
    simp -dsimp only [go_sem,gS,f2,f3,h2]
    refine zA (hJ.acc.lenable (by simp -dsimp only [go_sem,gS])) ?_
    rw [hJ.acc.len hok]
    simp -dsimp only [go_sem,gS,f2,f3]
    refine zBQ _ r l s2 xs.length (h.len hle2 (by simp only [hpS,eq_self,implies_true,f2,f3])) _ ?_
    cases hm:(xK l xs.length s2).1 with
    | false =>
     have hfin:=hJ.done h2' hm
     generalize (xK l xs.length s2).2=s3 at hfin ⊢
     simp -dsimp only [go_sem,gS,f2,f3]
     exact key xs s3 a R hJ.acc hfin
    | true =>
     simp -dsimp only [go_sem,gS,f2,f3]
     have hle3:=qN (n:=xs.length) hle2
     have hsz:=hJ.nine
     simp only at hsz
     have hnext:=fun a' R' hacc=>hJ.next (jY l 2) (fun s hs=>zEP hs) h2' hm (a':=a') (R':=R') hacc
     simp only at hnext
     generalize (xK l xs.length s2).2=s3 at hnext hle3 ⊢
     refine zAY _ r l _ 2 (h.len hle3 (by simp only [hpS,eq_self,implies_true,f2,f3])) _ ?_
     generalize (zS l 2 s3).1=t at hnext ⊢
     generalize (zS l 2 s3).2=s4 at hnext ⊢
     simp -dsimp only [go_sem,gS,f2,f3]

     refine vD (fun b6 v6 f6 w6=>?_)
     simp only [zN,zU] at f6
     simp -dsimp only [go_sem,gS,f2,f3,f6]
     refine hJ.acc.appTo (by simp only [hpS,eq_self,implies_true,f2,f3,f6]) (by simp only [hpS,eq_self,implies_true,f2]) (by simp only [List.length_map,List.length_cons,List.length_nil]; omega) (fun a' R' hacc' hn=>?_)
     have hone':=hacc'.one
     have f6':=hn b6 (by simp only [hpS,eq_self,implies_true,f2,f3,f6]) f6.2.2.2.2.2.2
     rw [show xs.map D.str++[D.str t]=(xs++[t]).map D.str by simp] at hacc'
     simp -dsimp only [go_sem,gS,f2,f3,f6,hone']
     refine zP ⟨k - 1,xs++[t],s4,a',R'⟩ _ ⟨rfl,(hnext a' R' hacc').1⟩ (hnext a' R' hacc').2 (by simp -dsimp only [go_sem,gS]) (yM (by simp only [hpS,eq_self,implies_true,f2,f3,f6,f6']) (by simp only [hpS,eq_self,implies_true,f2,f3,f6,f6']))
   ·have h2':s2.err≠0:=of_decide_eq_false h2
    simp -dsimp only [go_sem,gS,f2,f3,h2]
    exact key xs s2 a R hJ.acc (hJ.stop h2')
  case rest =>
   intro xs' s' a' R' hacc hfin
   have hall:∀ cs,It.d { (default:It) with kind:=1,name:=w,vars:=xs',ctors:=cs }=.agg [.int .i64 1,.str w,.slice (xs'.map D.str),.slice (cs.map Ct.d),.slice [],.slice [],.int .i64 0,.slice [],.int .i64 0,.int .i64 0,.str ⟨#[]⟩,.int .i64 0,.slice [],.int .i64 0,.str ⟨#[]⟩,.int .i64 0,.slice [],.str ⟨#[]⟩,.slice [],.slice []]:=fun cs=>by
    simp [It.d,It.cs,Gl.cs,Tm.none,Tm.cs,Tm.ds,Gl.ds,default,instInhabitedIt]
   have hle6:s'.pos≤l.length:=by have:=(wB (jY l 2) 10 []).le _ hle5; rw [hfin] at this; exact this
   have hone:=hacc.one
   rw [hfin] at hK
   simp only [hall] at hK
   try simp -dsimp only [go_sem,gS,f2,f3]
   refine zBS _ r l s' kEq (h.len hle6 (by simp only [hpS,eq_self,implies_true,f2,f3])) _ ?_
   have hle7:=wT (t:=kEq) hle6
   generalize yR l kEq s'=s6 at hK hle7 ⊢
   simp -dsimp only [go_sem,gS,f2,f3]
   refine zKB _ r l s6 (h.len hle7 (by simp only [hpS,eq_self,implies_true,f2,f3])) _ ?_
   have hle8:=(vF l).le _ hle7
   have hge8:=(vF l).ge s6
   generalize (vW l s6).1=c at hK ⊢
   generalize (vW l s6).2=s7 at hK hle8 hge8 ⊢
   obtain ⟨cn,ca⟩:=c
   simp -dsimp only [go_sem,gS,f2,f3,Ct.d,Ct.cs]
   refine vD (fun b6 v6 f6 w6=>?_)
   simp only [zN,zU] at f6
   simp -dsimp only [go_sem,gS,f2,f3,f6]
   refine vD (fun b8 v8 f8 w8=>?_)
   simp only [zN,zU] at f8
   simp -dsimp only [go_sem,gS,f2,f3,f6,f8]
   have hacc2:Acc R' [r,b2,b3] 120 2 ([Ct.mk cn ca].map Ct.d) (.own b8 v8) (upd R' b8 (.arr 120 2 v8 [.agg [.str cn,.slice (ca.map Ty.d)]])):=Acc.new (by simp only [hpS,eq_self,implies_true,f8]) f8.2.2.2.2.2.2.2.2 w8
   refine yP (X:=Nat×List Ct×RdS×A×Heap) (fun x=>[(0,.ref r 0),(2,.ref b2 0),(3,.ref b3 0)])
    (fun x G=>G=hp x.2.2.2.2 [(r,.var (rdA l x.2.2.1)),(b2,.var [.d (.int .i64 0),.d (.str ⟨#[]⟩),.nils,.nils,.nils,.nils,.d (.int .i64 0),.nils,.d (.int .i64 0),.d (.int .i64 0),.d (.str ⟨#[]⟩),.d (.int .i64 0),.nils,.d (.int .i64 0),.d (.str ⟨#[]⟩),.d (.int .i64 0),.nils,.d (.str ⟨#[]⟩),.nils,.nils]),(b3,.var [.d (.int .i64 1),.d (.str w),a',x.2.2.2.1,.nils,.nils,.d (.int .i64 0),.nils,.d (.int .i64 0),.d (.int .i64 0),.d (.str ⟨#[]⟩),.d (.int .i64 0),.nils,.d (.int .i64 0),.d (.str ⟨#[]⟩),.d (.int .i64 0),.nils,.d (.str ⟨#[]⟩),.nils,.nils])]∧Acc R' [r,b2,b3] 120 2 (x.2.1.map Ct.d) x.2.2.2.1 x.2.2.2.2∧x.2.2.1.pos≤l.length∧x.2.1.length≤x.2.2.1.pos+1∧l.length≤x.1+x.2.2.1.pos∧qA l x.1 x.2.1 x.2.2.1=qA l l.length [Ct.mk cn ca] s7)
    (fun x=>x.1) (l.length,[Ct.mk cn ca],s7,.own b8 v8,upd R' b8 (.arr 120 2 v8 [.agg [.str cn,.slice (ca.map Ty.d)]])) _ ⟨rfl,hacc2,hle8,by simp,by simp,rfl⟩ (by simp -dsimp only [go_sem,gS]) (by rw [zHP (by simp only [hpS,eq_self,implies_true,f8])]; exact (yM (by simp only [hpS,eq_self,implies_true,f2,f3,f6,f8,zCz,zDI]) (by simp only [hpS,eq_self,implies_true,f2,f3,f6,f8,zCz,zDI]))) ?_
   rintro ⟨k,cs,s8,a3,R3⟩ G ⟨rfl,hacc3,hle9,hcl,hfu,hrun⟩
   simp only at hacc3 hle9 hcl hfu hrun
   have hone3:=hacc3.one
   have hsh:=h.short
   simp -dsimp only [go_sem,gS,f2,f3]
   refine uX _ r l s8 kBar (h.len hle9 (by simp only [hpS,eq_self,implies_true,f2,f3])) _ ?_
   cases hg:(rgot l kBar s8).1 with
   | true =>
    obtain ⟨hz0,hz1,hz2⟩:=wA hg
    obtain ⟨k,rfl⟩:∃ k',k=k'+1:=⟨k - 1,by omega⟩
    have hle10:=yQ (t:=kBar) hle9
    have hrun':qA l k (cs++[(vW l (rgot l kBar s8).2).1]) (vW l (rgot l kBar s8).2).2=qA l l.length [Ct.mk cn ca] s7:=by rw [←hrun]; simp [qA,hg]
    generalize (rgot l kBar s8).2=s9 at hrun' hle10 hz1 ⊢
    simp -dsimp only [go_sem,gS,f2,f3]
    refine zKB _ r l s9 (h.len hle10 (by simp only [hpS,eq_self,implies_true,f2,f3])) _ ?_
    have hle11:=(vF l).le _ hle10
    have hge11:=(vF l).ge s9
    generalize (vW l s9).1=c at hrun' ⊢
    generalize (vW l s9).2=s10 at hrun' hle11 hge11 ⊢
    obtain ⟨dn,da⟩:=c
    simp -dsimp only [go_sem,gS,f2,f3,Ct.d,Ct.cs]
    refine vD (fun b7 v7 f7 w7=>?_)
    simp only [zN,zU] at f7
    simp -dsimp only [go_sem,gS,f2,f3,f7]
    refine hacc3.appTo (by simp only [hpS,eq_self,implies_true,f2,f3,f7]) (by simp only [hpS,eq_self,implies_true,f2]) (by simp only [List.length_map,List.length_cons,List.length_nil]; omega) (fun a4 R4 hacc4 hn4=>?_)
    have hone4:=hacc4.one
    have f7':=hn4 b7 (by simp only [hpS,eq_self,implies_true,f2,f3,f7]) f7.2.2.2.2.2.2
    rw [show cs.map Ct.d++[D.agg [D.str dn,D.slice (da.map Ty.d)]]=(cs++[Ct.mk dn da]).map Ct.d by simp [Ct.d,Ct.cs]] at hacc4
    simp -dsimp only [go_sem,gS,f2,f3,f7,hone4]
    refine zP (k,cs++[Ct.mk dn da],s10,a4,R4) (hp R4 [(r,.var (rdA l s10)),(b2,.var [.d (.int .i64 0),.d (.str ⟨#[]⟩),.nils,.nils,.nils,.nils,.d (.int .i64 0),.nils,.d (.int .i64 0),.d (.int .i64 0),.d (.str ⟨#[]⟩),.d (.int .i64 0),.nils,.d (.int .i64 0),.d (.str ⟨#[]⟩),.d (.int .i64 0),.nils,.d (.str ⟨#[]⟩),.nils,.nils]),(b3,.var [.d (.int .i64 1),.d (.str w),a',a4,.nils,.nils,.d (.int .i64 0),.nils,.d (.int .i64 0),.d (.int .i64 0),.d (.str ⟨#[]⟩),.d (.int .i64 0),.nils,.d (.int .i64 0),.d (.str ⟨#[]⟩),.d (.int .i64 0),.nils,.d (.str ⟨#[]⟩),.nils,.nils])]) ⟨rfl,hacc4,hle11, ?_, ?_,hrun'⟩ (Nat.lt_succ_self k) (by simp -dsimp only [go_sem,gS]) (yM (by simp only [hpS,eq_self,implies_true,f2,f3,f7,f7']) (by simp only [hpS,eq_self,implies_true,f2,f3,f7,f7']))
    ·simp only [List.length_append,List.length_cons,List.length_nil]; omega
    ·simp only; omega
   | false =>
    have hfin2:qA l l.length [Ct.mk cn ca] s7=(cs,s8):=by
     rw [←hrun]; cases k with
     | zero=>rfl
     | succ k=>simp [qA,hg]
    rw [hfin2] at hK
    rw [zT hg]
    try simp -dsimp only [go_sem,gS,f2,f3,hacc.allD]
    refine zZ ?_
    simp -dsimp only [go_sem,gS,f2,f3]
    refine hacc.deep2 hacc3 (by simp only [hpS,eq_self,implies_true,f2,f3]) (fun R4 hacc4 hn4=>?_)
    simp -dsimp only [go_sem,gS,f2,f3]
    refine hacc4.deep (by simp only [hpS,eq_self,implies_true,f2,f3]) (fun R'' hle'' hn=>?_)
    simp -dsimp only [go_sem,gS,f2,f3]
    exact zB (G:=rset H r l s8) (vB (l1:=[(r,.var (rdA l s8))]) hle'' (by simp only [hpS,eq_self,implies_true,f2,f3]) (by simp only [hpS,eq_self,implies_true,f2,f3])) (zC hK)
 | false =>
  rw [zT hg1]
  simp -dsimp only [go_sem,gS,f2,f3]
  refine uX _ r l s kW (h.len h.le (by simp only [hpS,eq_self,implies_true,f2,f3])) _ ?_
  cases hg2:(rgot l kW s).1 with
  | true =>
   simp only [uL,hg1,hg2,Bool.false_eq_true,if_false,if_true,zBi] at hK
   have hle1:=yQ (t:=kW) h.le
   simp -dsimp only [go_sem,gS,f2,f3]
   refine zAY _ r l _ 1 (h.len hle1 (by simp only [hpS,eq_self,implies_true,f2,f3])) _ ?_
   have hle5:=wJ (kind:=1) hle1
   generalize (zS l 1 (rgot l kW s).2).1=w at hK ⊢
   generalize (zS l 1 (rgot l kW s).2).2=s5 at hK hle5 ⊢
   simp -dsimp only [go_sem,gS,f2,f3]

   refine (fun (key:∀ (xs':List Ty) (s':RdS) (a':A) (R':Heap),Acc H [r,b2,b3] 63 3 (xs'.map Ty.d) a' R'→yC (xN 66 l 1) l 10 [] s5=(xs',s')→(?T2:List Ty→RdS→A→Heap→Prop) xs' s' a' R')=>?main) ?rest
   case main =>
    refine yP (X:=RowX Ty) (fun x=>[(0,.ref r 0),(2,.ref b2 0),(3,.ref b3 0)])
     (fun x G=>G=hp x.R [(r,.var (rdA l x.s)),(b2,.var [.d (.int .i64 0),.d (.str ⟨#[]⟩),.nils,.nils,.nils,.nils,.d (.int .i64 0),.nils,.d (.int .i64 0),.d (.int .i64 0),.d (.str ⟨#[]⟩),.d (.int .i64 0),.nils,.d (.int .i64 0),.d (.str ⟨#[]⟩),.d (.int .i64 0),.nils,.d (.str ⟨#[]⟩),.nils,.nils]),(b3,.var [.d (.int .i64 2),.d (.str w),.nils,.nils,x.a,.nils,.d (.int .i64 0),.nils,.d (.int .i64 0),.d (.int .i64 0),.d (.str ⟨#[]⟩),.d (.int .i64 0),.nils,.d (.int .i64 0),.d (.str ⟨#[]⟩),.d (.int .i64 0),.nils,.d (.str ⟨#[]⟩),.nils,.nils])]∧RowJ H [r,b2,b3] 63 3 Ty.d (xN 66 l 1) l s5 x)
     (fun x=>x.k) ⟨10,[],s5,.nils,H⟩ _ ⟨rfl,RowJ.first hle5⟩ (by simp -dsimp only [go_sem,gS]) (yM (by simp only [hpS,eq_self,implies_true,f2,f3]) (by simp only [hpS,eq_self,implies_true,f2,f3])) ?_
    rintro ⟨k,xs,s2,a,R⟩ G ⟨rfl,hJ⟩
    have hle2:=hJ.le
    have hone:=hJ.acc.one
    have hok:okK [r,b2,b3] R [(r,.var (rdA l s2)),(b2,.var [.d (.int .i64 0),.d (.str ⟨#[]⟩),.nils,.nils,.nils,.nils,.d (.int .i64 0),.nils,.d (.int .i64 0),.d (.int .i64 0),.d (.str ⟨#[]⟩),.d (.int .i64 0),.nils,.d (.int .i64 0),.d (.str ⟨#[]⟩),.d (.int .i64 0),.nils,.d (.str ⟨#[]⟩),.nils,.nils]),(b3,.var [.d (.int .i64 2),.d (.str w),.nils,.nils,a,.nils,.d (.int .i64 0),.nils,.d (.int .i64 0),.d (.int .i64 0),.d (.str ⟨#[]⟩),.d (.int .i64 0),.nils,.d (.int .i64 0),.d (.str ⟨#[]⟩),.d (.int .i64 0),.nils,.d (.str ⟨#[]⟩),.nils,.nils])]:=by simp only [hpS,eq_self,implies_true,f2,f3]
    simp only at hle2 hone
    simp -dsimp only [go_sem,gS,rdA,f2,f3]
    refine zD (fun h2=>?_) (fun h2=>?_)
    ·have h2':s2.err=0:=of_decide_eq_true h2
     simp -dsimp only [go_sem,gS,f2,f3,h2]
     refine zA (hJ.acc.lenable (by simp -dsimp only [go_sem,gS])) ?_
     rw [hJ.acc.len hok]
     simp -dsimp only [go_sem,gS,f2,f3]
     refine zBQ _ r l s2 xs.length (h.len hle2 (by simp only [hpS,eq_self,implies_true,f2,f3])) _ ?_
     cases hm:(xK l xs.length s2).1 with
     | false =>
      have hfin:=hJ.done h2' hm
      generalize (xK l xs.length s2).2=s3 at hfin ⊢
      simp -dsimp only [go_sem,gS,f2,f3]
      exact key xs s3 a R hJ.acc hfin
     | true =>
      simp -dsimp only [go_sem,gS,f2,f3]
      have hle3:=qN (n:=xs.length) hle2
      have hsz:=hJ.nine
      simp only at hsz
      have hnext:=fun a' R' hacc=>hJ.next (uM l 66 1) (fun s hs=>qL (by omega) hs) h2' hm (a':=a') (R':=R') hacc
      simp only at hnext
      generalize (xK l xs.length s2).2=s3 at hnext hle3 ⊢
      refine zB1 66 _ r l _ 1 (by omega) (by omega) (h.len hle3 (by simp only [hpS,eq_self,implies_true,f2,f3])) _ ?_
      generalize (xN 66 l 1 s3).1=t at hnext ⊢
      generalize (xN 66 l 1 s3).2=s4 at hnext ⊢
      obtain ⟨tv,tn,ta⟩:=t
      simp -dsimp only [go_sem,gS,f2,f3,Ty.d,Ty.cs]

      refine vD (fun b6 v6 f6 w6=>?_)
      simp only [zN,zU] at f6
      simp -dsimp only [go_sem,gS,f2,f3,f6]
      refine hJ.acc.appTo (by simp only [hpS,eq_self,implies_true,f2,f3,f6]) (by simp only [hpS,eq_self,implies_true,f2]) (by simp only [List.length_map,List.length_cons,List.length_nil]; omega) (fun a' R' hacc' hn=>?_)
      have hone':=hacc'.one
      have f6':=hn b6 (by simp only [hpS,eq_self,implies_true,f2,f3,f6]) f6.2.2.2.2.2.2
      rw [show xs.map Ty.d++[D.agg [D.bool tv,D.str tn,D.slice (Ty.ds ta)]]=(xs++[Ty.mk tv tn ta]).map Ty.d by simp [Ty.d,Ty.cs]] at hacc'
      simp -dsimp only [go_sem,gS,f2,f3,f6,hone']
      refine zP ⟨k - 1,xs++[Ty.mk tv tn ta],s4,a',R'⟩ _ ⟨rfl,(hnext a' R' hacc').1⟩ (hnext a' R' hacc').2 (by simp -dsimp only [go_sem,gS]) (yM (by simp only [hpS,eq_self,implies_true,f2,f3,f6,f6']) (by simp only [hpS,eq_self,implies_true,f2,f3,f6,f6']))
    ·have h2':s2.err≠0:=of_decide_eq_false h2
     simp -dsimp only [go_sem,gS,f2,f3,h2]
     exact key xs s2 a R hJ.acc (hJ.stop h2')
   case rest =>
    intro xs' s' a' R' hacc hfin
    have hall:It.d { (default:It) with kind:=2,name:=w,types:=xs' }=.agg [.int .i64 2,.str w,.slice [],.slice [],.slice (xs'.map Ty.d),.slice [],.int .i64 0,.slice [],.int .i64 0,.int .i64 0,.str ⟨#[]⟩,.int .i64 0,.slice [],.int .i64 0,.str ⟨#[]⟩,.int .i64 0,.slice [],.str ⟨#[]⟩,.slice [],.slice []]:=by
     simp [It.d,It.cs,Gl.cs,Tm.none,Tm.cs,Tm.ds,Gl.ds,default,instInhabitedIt]
    rw [hfin] at hK
    simp only [hall] at hK

    try simp -dsimp only [go_sem,gS,f2,f3,hacc.allD,hacc.one]
    refine zZ ?_
    simp -dsimp only [go_sem,gS,f2,f3]
    refine hacc.deep (by simp only [hpS,eq_self,implies_true,f2,f3]) (fun R'' hle'' hn=>?_)
    simp -dsimp only [go_sem,gS,f2,f3]
    exact zB (G:=rset H r l s') (vB (l1:=[(r,.var (rdA l s'))]) hle'' (by simp only [hpS,eq_self,implies_true,f2,f3]) (by simp only [hpS,eq_self,implies_true,f2,f3])) (zC hK)
  | false =>
   rw [zT hg2]
   simp -dsimp only [go_sem,gS,f2,f3]
   refine uX _ r l s kV (h.len h.le (by simp only [hpS,eq_self,implies_true,f2,f3])) _ ?_
   cases hg3:(rgot l kV s).1 with
   | true =>
    simp only [uL,hg1,hg2,hg3,Bool.false_eq_true,if_false,if_true,zBh] at hK
    have hle1:=yQ (t:=kV) h.le
    simp -dsimp only [go_sem,gS,f2,f3]
    refine zAY _ r l _ 1 (h.len hle1 (by simp only [hpS,eq_self,implies_true,f2,f3])) _ ?_
    have hle5:=wJ (kind:=1) hle1
    generalize (zS l 1 (rgot l kV s).2).1=w at hK ⊢
    generalize (zS l 1 (rgot l kV s).2).2=s5 at hK hle5 ⊢
    simp -dsimp only [go_sem,gS,f2,f3]

    refine (fun (key:∀ (xs':List Bool) (s':RdS) (a':A) (R':Heap),Acc H [r,b2,b3] 4 1 (xs'.map D.bool) a' R'→yC (vU l) l 10 [] s5=(xs',s')→(?T3:List Bool→RdS→A→Heap→Prop) xs' s' a' R')=>?main) ?rest
    case main =>
     refine yP (X:=RowX Bool) (fun x=>[(0,.ref r 0),(2,.ref b2 0),(3,.ref b3 0)])
      (fun x G=>G=hp x.R [(r,.var (rdA l x.s)),(b2,.var [.d (.int .i64 0),.d (.str ⟨#[]⟩),.nils,.nils,.nils,.nils,.d (.int .i64 0),.nils,.d (.int .i64 0),.d (.int .i64 0),.d (.str ⟨#[]⟩),.d (.int .i64 0),.nils,.d (.int .i64 0),.d (.str ⟨#[]⟩),.d (.int .i64 0),.nils,.d (.str ⟨#[]⟩),.nils,.nils]),(b3,.var [.d (.int .i64 3),.d (.str w),.nils,.nils,.nils,x.a,.d (.int .i64 0),.nils,.d (.int .i64 0),.d (.int .i64 0),.d (.str ⟨#[]⟩),.d (.int .i64 0),.nils,.d (.int .i64 0),.d (.str ⟨#[]⟩),.d (.int .i64 0),.nils,.d (.str ⟨#[]⟩),.nils,.nils])]∧RowJ H [r,b2,b3] 4 1 D.bool (vU l) l s5 x)
      (fun x=>x.k) ⟨10,[],s5,.nils,H⟩ _ ⟨rfl,RowJ.first hle5⟩ (by simp -dsimp only [go_sem,gS]) (yM (by simp only [hpS,eq_self,implies_true,f2,f3]) (by simp only [hpS,eq_self,implies_true,f2,f3])) ?_
     rintro ⟨k,xs,s2,a,R⟩ G ⟨rfl,hJ⟩
     have hle2:=hJ.le
     have hone:=hJ.acc.one
     have hok:okK [r,b2,b3] R [(r,.var (rdA l s2)),(b2,.var [.d (.int .i64 0),.d (.str ⟨#[]⟩),.nils,.nils,.nils,.nils,.d (.int .i64 0),.nils,.d (.int .i64 0),.d (.int .i64 0),.d (.str ⟨#[]⟩),.d (.int .i64 0),.nils,.d (.int .i64 0),.d (.str ⟨#[]⟩),.d (.int .i64 0),.nils,.d (.str ⟨#[]⟩),.nils,.nils]),(b3,.var [.d (.int .i64 3),.d (.str w),.nils,.nils,.nils,a,.d (.int .i64 0),.nils,.d (.int .i64 0),.d (.int .i64 0),.d (.str ⟨#[]⟩),.d (.int .i64 0),.nils,.d (.int .i64 0),.d (.str ⟨#[]⟩),.d (.int .i64 0),.nils,.d (.str ⟨#[]⟩),.nils,.nils])]:=by simp only [hpS,eq_self,implies_true,f2,f3]
     simp only at hle2 hone
     simp -dsimp only [go_sem,gS,rdA,f2,f3]
     refine zD (fun h2=>?_) (fun h2=>?_)
     ·have h2':s2.err=0:=of_decide_eq_true h2
      simp -dsimp only [go_sem,gS,f2,f3,h2]
      refine zA (hJ.acc.lenable (by simp -dsimp only [go_sem,gS])) ?_
      rw [hJ.acc.len hok]
      simp -dsimp only [go_sem,gS,f2,f3]
      refine zBQ _ r l s2 xs.length (h.len hle2 (by simp only [hpS,eq_self,implies_true,f2,f3])) _ ?_
      cases hm:(xK l xs.length s2).1 with
      | false =>
       have hfin:=hJ.done h2' hm
       generalize (xK l xs.length s2).2=s3 at hfin ⊢
       simp -dsimp only [go_sem,gS,f2,f3]
       exact key xs s3 a R hJ.acc hfin
      | true =>
       simp -dsimp only [go_sem,gS,f2,f3]
       have hle3:=qN (n:=xs.length) hle2
       have hsz:=hJ.nine
       simp only at hsz
       have hnext:=fun a' R' hacc=>hJ.next (qZ l) (fun s hs=>zC0 hs) h2' hm (a':=a') (R':=R') hacc
       simp only at hnext
       generalize (xK l xs.length s2).2=s3 at hnext hle3 ⊢
       refine uX _ r l s3 kIn (h.len hle3 (by simp only [hpS,eq_self,implies_true,f2,f3])) _ ?_
       cases hi:(rgot l kIn s3).1 with
       | true =>
        simp only [vU,hi,if_true] at hnext
        generalize (rgot l kIn s3).2=s4 at hnext ⊢
        simp -dsimp only [go_sem,gS,f2,f3]
        refine vD (fun b6 v6 f6 w6=>?_)
        simp only [zN,zU] at f6
        simp -dsimp only [go_sem,gS,f2,f3,f6]
        refine hJ.acc.appTo (by simp only [hpS,eq_self,implies_true,f2,f3,f6]) (by simp only [hpS,eq_self,implies_true,f2]) (by simp only [List.length_map,List.length_cons,List.length_nil]; omega) (fun a' R' hacc' hn=>?_)
        have hone':=hacc'.one
        have f6':=hn b6 (by simp only [hpS,eq_self,implies_true,f2,f3,f6]) f6.2.2.2.2.2.2
        rw [show xs.map D.bool++[D.bool true]=(xs++[true]).map D.bool by simp] at hacc'
        simp -dsimp only [go_sem,gS,f2,f3,f6,hone']
        refine zP ⟨k - 1,xs++[true],s4,a',R'⟩ _ ⟨rfl,(hnext a' R' hacc').1⟩ (hnext a' R' hacc').2 (by simp -dsimp only [go_sem,gS]) (yM (by simp only [hpS,eq_self,implies_true,f2,f3,f6,f6']) (by simp only [hpS,eq_self,implies_true,f2,f3,f6,f6']))
       | false =>
        simp only [vU,hi,Bool.false_eq_true,if_false] at hnext
        rw [zT hi]
        simp -dsimp only [go_sem,gS,f2,f3]
        refine zBS _ r l s3 kOut (h.len hle3 (by simp only [hpS,eq_self,implies_true,f2,f3])) _ ?_
        generalize yR l kOut s3=s4 at hnext ⊢
        simp -dsimp only [go_sem,gS,f2,f3]
        refine vD (fun b6 v6 f6 w6=>?_)
        simp only [zN,zU] at f6
        simp -dsimp only [go_sem,gS,f2,f3,f6]
        refine hJ.acc.appTo (by simp only [hpS,eq_self,implies_true,f2,f3,f6]) (by simp only [hpS,eq_self,implies_true,f2]) (by simp only [List.length_map,List.length_cons,List.length_nil]; omega) (fun a' R' hacc' hn=>?_)
        have hone':=hacc'.one
        have f6':=hn b6 (by simp only [hpS,eq_self,implies_true,f2,f3,f6]) f6.2.2.2.2.2.2
        rw [show xs.map D.bool++[D.bool false]=(xs++[false]).map D.bool by simp] at hacc'
        simp -dsimp only [go_sem,gS,f2,f3,f6,hone']
        refine zP ⟨k - 1,xs++[false],s4,a',R'⟩ _ ⟨rfl,(hnext a' R' hacc').1⟩ (hnext a' R' hacc').2 (by simp -dsimp only [go_sem,gS]) (yM (by simp only [hpS,eq_self,implies_true,f2,f3,f6,f6']) (by simp only [hpS,eq_self,implies_true,f2,f3,f6,f6']))
     ·have h2':s2.err≠0:=of_decide_eq_false h2
      simp -dsimp only [go_sem,gS,f2,f3,h2]
      exact key xs s2 a R hJ.acc (hJ.stop h2')
    case rest =>
     intro xs' s' a' R' hacc hfin
     have hall:∀ d,It.d { (default:It) with kind:=3,name:=w,ways:=xs',det:=d }=.agg [.int .i64 3,.str w,.slice [],.slice [],.slice [],.slice (xs'.map D.bool),.int .i64 d,.slice [],.int .i64 0,.int .i64 0,.str ⟨#[]⟩,.int .i64 0,.slice [],.int .i64 0,.str ⟨#[]⟩,.int .i64 0,.slice [],.str ⟨#[]⟩,.slice [],.slice []]:=fun d=>by
      simp [It.d,It.cs,Gl.cs,Tm.none,Tm.cs,Tm.ds,Gl.ds,default,instInhabitedIt]
     rw [hfin] at hK
     have hle6:s'.pos≤l.length:=by have:=(wB (qZ l) 10 []).le _ hle5; rw [hfin] at this; exact this
     have hle7:=wT (t:=kIs) hle6
     have hone:=hacc.one
     simp only [hall,rdet] at hK
     try simp -dsimp only [go_sem,gS,f2,f3]
     refine zBS _ r l s' kIs (h.len hle6 (by simp only [hpS,eq_self,implies_true,f2,f3])) _ ?_
     generalize yR l kIs s'=s6 at hK hle7 ⊢
     simp -dsimp only [go_sem,gS,f2,f3]
     refine uX _ r l s6 kDet (h.len hle7 (by simp only [hpS,eq_self,implies_true,f2,f3])) _ ?_
     cases g1:(rgot l kDet s6).1 with
     | true =>
      simp only [g1,if_true] at hK
      try simp -dsimp only [go_sem,gS,f2,f3,hacc.allD,hacc.one]
      refine zZ ?_
      simp -dsimp only [go_sem,gS,f2,f3]
      refine hacc.deep (by simp only [hpS,eq_self,implies_true,f2,f3]) (fun R'' hle'' hn=>?_)
      simp -dsimp only [go_sem,gS,f2,f3]
      exact zB (G:=rset H r l (rgot l kDet s6).2) (vB (l1:=[(r,.var (rdA l (rgot l kDet s6).2))]) hle'' (by simp only [hpS,eq_self,implies_true,f2,f3]) (by simp only [hpS,eq_self,implies_true,f2,f3])) (zC hK)
     | false =>
      simp only [g1,Bool.false_eq_true,if_false] at hK
      rw [zT g1]
      simp -dsimp only [go_sem,gS,f2,f3]
      refine uX _ r l s6 jE (h.len hle7 (by simp only [hpS,eq_self,implies_true,f2,f3])) _ ?_
      cases g2:(rgot l jE s6).1 with
      | true =>
       simp only [g2,if_true] at hK
       try simp -dsimp only [go_sem,gS,f2,f3,hacc.allD,hacc.one]
       refine zZ ?_
       simp -dsimp only [go_sem,gS,f2,f3]
       refine hacc.deep (by simp only [hpS,eq_self,implies_true,f2,f3]) (fun R'' hle'' hn=>?_)
       simp -dsimp only [go_sem,gS,f2,f3]
       exact zB (G:=rset H r l (rgot l jE s6).2) (vB (l1:=[(r,.var (rdA l (rgot l jE s6).2))]) hle'' (by simp only [hpS,eq_self,implies_true,f2,f3]) (by simp only [hpS,eq_self,implies_true,f2,f3])) (zC hK)
      | false =>
       simp only [g2,Bool.false_eq_true,if_false] at hK
       rw [zT g2]
       simp -dsimp only [go_sem,gS,f2,f3]
       refine uX _ r l s6 jD (h.len hle7 (by simp only [hpS,eq_self,implies_true,f2,f3])) _ ?_
       cases g3:(rgot l jD s6).1 with
       | true =>
        simp only [g3,if_true] at hK
        try simp -dsimp only [go_sem,gS,f2,f3,hacc.allD,hacc.one]
        refine zZ ?_
        simp -dsimp only [go_sem,gS,f2,f3]
        refine hacc.deep (by simp only [hpS,eq_self,implies_true,f2,f3]) (fun R'' hle'' hn=>?_)
        simp -dsimp only [go_sem,gS,f2,f3]
        exact zB (G:=rset H r l (rgot l jD s6).2) (vB (l1:=[(r,.var (rdA l (rgot l jD s6).2))]) hle'' (by simp only [hpS,eq_self,implies_true,f2,f3]) (by simp only [hpS,eq_self,implies_true,f2,f3])) (zC hK)
       | false =>
        simp only [g3,Bool.false_eq_true,if_false] at hK
        rw [zT g3]
        simp -dsimp only [go_sem,gS,f2,f3]
        refine uX _ r l s6 kNon (h.len hle7 (by simp only [hpS,eq_self,implies_true,f2,f3])) _ ?_
        cases g4:(rgot l kNon s6).1 with
        | true =>
         simp only [g4,if_true] at hK
         try simp -dsimp only [go_sem,gS,f2,f3,hacc.allD,hacc.one]
         refine zZ ?_
         simp -dsimp only [go_sem,gS,f2,f3]
         refine hacc.deep (by simp only [hpS,eq_self,implies_true,f2,f3]) (fun R'' hle'' hn=>?_)
         simp -dsimp only [go_sem,gS,f2,f3]
         exact zB (G:=rset H r l (rgot l kNon s6).2) (vB (l1:=[(r,.var (rdA l (rgot l kNon s6).2))]) hle'' (by simp only [hpS,eq_self,implies_true,f2,f3]) (by simp only [hpS,eq_self,implies_true,f2,f3])) (zC hK)
        | false =>
         simp only [g4,Bool.false_eq_true,if_false] at hK
         rw [zT g4]
         simp -dsimp only [go_sem,gS,f2,f3]
         refine zA6 _ r l s6 2 (h.len hle7 (by simp only [hpS,eq_self,implies_true,f2,f3])) _ ?_
         try simp -dsimp only [go_sem,gS,f2,f3,hacc.allD,hacc.one]
         refine zZ ?_
         simp -dsimp only [go_sem,gS,f2,f3]
         refine hacc.deep (by simp only [hpS,eq_self,implies_true,f2,f3]) (fun R'' hle'' hn=>?_)
         simp -dsimp only [go_sem,gS,f2,f3]
         exact zB (G:=rset H r l (uC 2 s6)) (vB (l1:=[(r,.var (rdA l (uC 2 s6)))]) hle'' (by simp only [hpS,eq_self,implies_true,f2,f3]) (by simp only [hpS,eq_self,implies_true,f2,f3])) (zC hK)
   | false =>
    rw [zT hg3]
    simp only [uL,hg1,hg2,hg3,Bool.false_eq_true,if_false,if_true,qB] at hK
    simp -dsimp only [go_sem,gS,f2,f3]
    refine zAY _ r l _ 1 (h.len h.le (by simp only [hpS,eq_self,implies_true,f2,f3])) _ ?_
    have hle5:=wJ (kind:=1) h.le
    generalize (zS l 1 s).1=w at hK ⊢
    generalize (zS l 1 s).2=s5 at hK hle5 ⊢
    simp -dsimp only [go_sem,gS,f2,f3]

    refine (fun (key:∀ (xs':List Tm) (s':RdS) (a':A) (R':Heap),Acc H [r,b2,b3] 39 4 (xs'.map Tm.d) a' R'→yC (yS 66 l 1) l 10 [] s5=(xs',s')→(?T4:List Tm→RdS→A→Heap→Prop) xs' s' a' R')=>?main) ?rest
    case main =>
     refine yP (X:=RowX Tm) (fun x=>[(0,.ref r 0),(2,.ref b2 0),(3,.ref b3 0)])
      (fun x G=>G=hp x.R [(r,.var (rdA l x.s)),(b2,.var [.d (.int .i64 0),.d (.str ⟨#[]⟩),.nils,.nils,.nils,.nils,.d (.int .i64 0),.nils,.d (.int .i64 0),.d (.int .i64 0),.d (.str ⟨#[]⟩),.d (.int .i64 0),.nils,.d (.int .i64 0),.d (.str ⟨#[]⟩),.d (.int .i64 0),.nils,.d (.str ⟨#[]⟩),.nils,.nils]),(b3,.var [.d (.int .i64 4),.d (.str w),.nils,.nils,.nils,.nils,.d (.int .i64 0),x.a,.d (.int .i64 0),.d (.int .i64 0),.d (.str ⟨#[]⟩),.d (.int .i64 0),.nils,.d (.int .i64 0),.d (.str ⟨#[]⟩),.d (.int .i64 0),.nils,.d (.str ⟨#[]⟩),.nils,.nils])]∧RowJ H [r,b2,b3] 39 4 Tm.d (yS 66 l 1) l s5 x)
      (fun x=>x.k) ⟨10,[],s5,.nils,H⟩ _ ⟨rfl,RowJ.first hle5⟩ (by simp -dsimp only [go_sem,gS]) (yM (by simp only [hpS,eq_self,implies_true,f2,f3]) (by simp only [hpS,eq_self,implies_true,f2,f3])) ?_
     rintro ⟨k,xs,s2,a,R⟩ G ⟨rfl,hJ⟩
     have hle2:=hJ.le
     have hone:=hJ.acc.one
     have hok:okK [r,b2,b3] R [(r,.var (rdA l s2)),(b2,.var [.d (.int .i64 0),.d (.str ⟨#[]⟩),.nils,.nils,.nils,.nils,.d (.int .i64 0),.nils,.d (.int .i64 0),.d (.int .i64 0),.d (.str ⟨#[]⟩),.d (.int .i64 0),.nils,.d (.int .i64 0),.d (.str ⟨#[]⟩),.d (.int .i64 0),.nils,.d (.str ⟨#[]⟩),.nils,.nils]),(b3,.var [.d (.int .i64 4),.d (.str w),.nils,.nils,.nils,.nils,.d (.int .i64 0),a,.d (.int .i64 0),.d (.int .i64 0),.d (.str ⟨#[]⟩),.d (.int .i64 0),.nils,.d (.int .i64 0),.d (.str ⟨#[]⟩),.d (.int .i64 0),.nils,.d (.str ⟨#[]⟩),.nils,.nils])]:=by simp only [hpS,eq_self,implies_true,f2,f3]
     simp only at hle2 hone
     simp -dsimp only [go_sem,gS,rdA,f2,f3]
     refine zD (fun h2=>?_) (fun h2=>?_)
     ·have h2':s2.err=0:=of_decide_eq_true h2
      simp -dsimp only [go_sem,gS,f2,f3,h2]
      refine zA (hJ.acc.lenable (by simp -dsimp only [go_sem,gS])) ?_
      rw [hJ.acc.len hok]
      simp -dsimp only [go_sem,gS,f2,f3]
      refine zBQ _ r l s2 xs.length (h.len hle2 (by simp only [hpS,eq_self,implies_true,f2,f3])) _ ?_
      cases hm:(xK l xs.length s2).1 with
      | false =>
       have hfin:=hJ.done h2' hm
       generalize (xK l xs.length s2).2=s3 at hfin ⊢
       simp -dsimp only [go_sem,gS,f2,f3]
       exact key xs s3 a R hJ.acc hfin
      | true =>
       simp -dsimp only [go_sem,gS,f2,f3]
       have hle3:=qN (n:=xs.length) hle2
       have hsz:=hJ.nine
       simp only at hsz
       have hnext:=fun a' R' hacc=>hJ.next (vR l 66 1) (fun s hs=>kJ (by omega) hs) h2' hm (a':=a') (R':=R') hacc
       simp only at hnext
       generalize (xK l xs.length s2).2=s3 at hnext hle3 ⊢
       refine term_ok 66 _ r l _ 1 (by omega) (by omega) (h.len hle3 (by simp only [hpS,eq_self,implies_true,f2,f3])) _ ?_
       generalize (yS 66 l 1 s3).1=t at hnext ⊢
       generalize (yS 66 l 1 s3).2=s4 at hnext ⊢
       obtain ⟨tk,tn,ti,ta⟩:=t
       simp -dsimp only [go_sem,gS,f2,f3,Tm.d,Tm.cs]

       refine vD (fun b6 v6 f6 w6=>?_)
       simp only [zN,zU] at f6
       simp -dsimp only [go_sem,gS,f2,f3,f6]
       refine hJ.acc.appTo (by simp only [hpS,eq_self,implies_true,f2,f3,f6]) (by simp only [hpS,eq_self,implies_true,f2]) (by simp only [List.length_map,List.length_cons,List.length_nil]; omega) (fun a' R' hacc' hn=>?_)
       have hone':=hacc'.one
       have f6':=hn b6 (by simp only [hpS,eq_self,implies_true,f2,f3,f6]) f6.2.2.2.2.2.2
       rw [show xs.map Tm.d++[D.agg [D.int .i64 tk,D.str tn,D.int .i64 ti,D.slice (Tm.ds ta)]]=(xs++[Tm.mk tk tn ti ta]).map Tm.d by simp [Tm.d,Tm.cs]] at hacc'
       simp -dsimp only [go_sem,gS,f2,f3,f6,hone']
       refine zP ⟨k - 1,xs++[Tm.mk tk tn ti ta],s4,a',R'⟩ _ ⟨rfl,(hnext a' R' hacc').1⟩ (hnext a' R' hacc').2 (by simp -dsimp only [go_sem,gS]) (yM (by simp only [hpS,eq_self,implies_true,f2,f3,f6,f6']) (by simp only [hpS,eq_self,implies_true,f2,f3,f6,f6']))
     ·have h2':s2.err≠0:=of_decide_eq_false h2
      simp -dsimp only [go_sem,gS,f2,f3,h2]
      exact key xs s2 a R hJ.acc (hJ.stop h2')
    case rest =>
     intro xs' s' a' R' hacc hfin
     have hall:∀ g,It.d { (default:It) with kind:=4,name:=w,args:=xs',body:=g }=.agg ([.int .i64 4,.str w,.slice [],.slice [],.slice [],.slice [],.int .i64 0,.slice (xs'.map Tm.d)]++g.cs):=fun g=>by
      simp [It.d,It.cs,default,instInhabitedIt]
     have hle6:s'.pos≤l.length:=by have:=(wB (vR l 66 1) 10 []).le _ hle5; rw [hfin] at this; exact this
     have hone:=hacc.one
     rw [hfin] at hK
     try simp -dsimp only [go_sem,gS,f2,f3]
     refine uX _ r l s' kIf (h.len hle6 (by simp only [hpS,eq_self,implies_true,f2,f3])) _ ?_
     cases g1:(rgot l kIf s').1 with
     | false =>
      simp only [g1,Bool.false_eq_true,if_false,hall] at hK
      rw [zT g1]
      have hn1:Gl.cs (.mk 1 .none .none ⟨#[]⟩ [] [])=[.int .i64 1,.int .i64 0,.str ⟨#[]⟩,.int .i64 0,.slice [],.int .i64 0,.str ⟨#[]⟩,.int .i64 0,.slice [],.str ⟨#[]⟩,.slice [],.slice []]:=by
       simp [Gl.cs,Tm.none,Tm.cs,Tm.ds,Gl.ds]
      rw [hn1] at hK
      simp -dsimp only [go_sem,gS,f2,f3]
      try simp -dsimp only [go_sem,gS,f2,f3,hacc.allD,hacc.one]
      refine zZ ?_
      simp -dsimp only [go_sem,gS,f2,f3]
      refine hacc.deep (by simp only [hpS,eq_self,implies_true,f2,f3]) (fun R'' hle'' hn=>?_)
      simp -dsimp only [go_sem,gS,f2,f3]
      exact zB (G:=rset H r l s') (vB (l1:=[(r,.var (rdA l s'))]) hle'' (by simp only [hpS,eq_self,implies_true,f2,f3]) (by simp only [hpS,eq_self,implies_true,f2,f3])) (zC hK)
     | true =>
      simp only [g1,if_true,zA1,hall] at hK
      have hle7:=yQ (t:=kIf) hle6
      simp -dsimp only [go_sem,gS,f2,f3]
      refine zD9 l 1 (xP 66 l 1) (vG l 66 1) (fun H r s h K hK=>zEq l 66 1 (by omega) (by omega) H r s h K hK) _ r _ (h.len hle7 (by simp only [hpS,eq_self,implies_true,f2,f3])) _ ?_
      generalize (uQ (xP 66 l 1) l (rgot l kIf s').2).1=g at hK ⊢
      generalize (uQ (xP 66 l 1) l (rgot l kIf s').2).2=s6 at hK ⊢
      obtain ⟨x1,x2,x3,x4,x5,x6,x7,x8,x9,x10,x11,x12,hca⟩:=g.opn
      rw [hca] at hK
      simp -dsimp only [go_sem,gS,f2,f3,Gl.d,hca]
      try simp -dsimp only [go_sem,gS,f2,f3,hacc.allD,hacc.one]
      refine zZ ?_
      simp -dsimp only [go_sem,gS,f2,f3]
      refine hacc.deep (by simp only [hpS,eq_self,implies_true,f2,f3]) (fun R'' hle'' hn=>?_)
      simp -dsimp only [go_sem,gS,f2,f3]
      exact zB (G:=rset H r l s6) (vB (l1:=[(r,.var (rdA l s6))]) hle'' (by simp only [hpS,eq_self,implies_true,f2,f3]) (by simp only [hpS,eq_self,implies_true,f2,f3])) (zC hK)
end Go.Aug

/- Walks of ParL. -/
namespace Go.Aug
open Go.Proofs
set_option maxRecDepth 100000
set_option linter.unusedSimpArgs false
attribute [local irreducible] hid andK letA zR wN xX yH xR xE wR idxA ldV ldD addO xD appTo wF slA srcK nilQ retW gif sgd yT svc sops xQ yX aopO xT yU aBin aUn wK aLen zL yW zI yG xC yF yZ zJ zM yV zX yE xG xU frzM putE newK newV wP ACall xH wD zW sret cnd szs nilC yK zQ yA
attribute [local go_sem] Int.natCast_zero





end Go.Aug
