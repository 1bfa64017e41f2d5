/- The facts of the program's functions, and the contracts of its lexer and parser; conditions stand in each contract. -/
import Derived.Test.YthldjffimcngaaaGreatDoorReaderOne
import Derived.Test.YthldjffimcngaaaGreatDoorGrammarOne
import Derived.Test.YthldjffimcngaaaGreatDoorAugFive
set_option linter.all false
set_option linter.unusedVariables false
set_option linter.unusedSimpArgs false
set_option linter.unusedSectionVars false

/- The program's parser: its place, and the small steps over the tokens. -/
namespace Go.Aug
open Go.Proofs
set_option maxRecDepth 100000
set_option linter.unusedSimpArgs false
attribute [local irreducible] hid andK letA zR wN xX yH xR xE wR idxA ldV ldD addO xD appTo wF slA srcK nilQ retW gif sgd yT svc sops xQ yX aopO xT yU aBin aUn wK aLen zL yW zI yG xC yF yZ zJ zM yV zX yE xG xU frzM putE newK newV wP ACall xH wD zW sret cnd szs nilC yK zQ yA
attribute [local go_sem] Int.natCast_zero
theorem ACallP.hp_in {P:Program} {V:Env} {f:FuncId} {args:List A} {R:Heap} {b:Nat} {o:AObj} {K:A→Heap→Prop} {KP:Value→Heap→Prop} (h:R b=some o) (k:ACallP P V f args (hp R [(b,o)]) K KP):ACallP P V f args R K KP:=by rw [zO2 h] at k; exact k
def errG (e:Int):Nat:=if e=3 then 3 else if e=4 then 0 else if e=1 then 2 else 1
def boxV (eb:EbG) (g:Nat):Value:=.iface 116 (.agg #[(zK eb).E g])
def boxE (eb:EbG) (e:Int):Value:=boxV eb (errG e)
abbrev psA (l:List Tok) (n:Nat):List A:=[.d (.slice (l.map Tok.d)),.d (.int .i64 n)]
structure PsAt (H:Heap) (p:Nat) (l:List Tok) (s:RdS):Prop where
 at_:H p=some (.var (psA l s.pos))
 short:l.length < 1073741824
 le:s.pos≤l.length
 ok:s.err=0
def pset (H:Heap) (p:Nat) (l:List Tok) (s:RdS):Heap:=upd H p (.var (psA l s.pos))
theorem PsAt.self {H:Heap} {r:Nat} {l:List Tok} {s:RdS} (h:PsAt H r l s):pset H r l s=H:=zJj h.at_
@[go_sem] theorem zXT {R:Heap} {lst:List (Nat×AObj)} {r:Nat} {l:List Tok} {s:RdS}:pset (hp R lst) r l s=hp R (setL r (.var (psA l s.pos)) lst):=zLP
theorem PsAt.len {H':Heap} {r:Nat} {l:List Tok} {s:RdS} (h1:l.length < 1073741824) (hs:s.pos≤l.length) (he:s.err=0) (ha:H' r=some (.var (psA l s.pos))):PsAt H' r l s:=⟨ha,h1,hs,he⟩
theorem uU {R R':Heap} {p:Nat} {o:AObj} {l:List (Nat×AObj)} (h0:LeH R R') (h:offR R [(p,o)] l):LeH (del R p) (del (hp R' l) p):=by
 intro b x hb
 unfold del at hb ⊢
 split at hb
 ·cases hb
 ·rename_i hbp
  rw [if_neg hbp]
  cases hi:inK b l with
  | false=>rw [zBE hi]; exact h0 b x hb
  | true =>
   rcases zF9 h hi with h2 | h2
   ·exfalso
    rw [zFZ,zHQ] at h2
    cases he:eqn b p with
    | true=>exact hbp (zCb he)
    | false=>rw [he,zB9] at h2; cases h2
   ·rw [h2] at hb; cases hb
theorem kZ (H:Heap) (p:Nat):LeH (del H p) H:=fun b o h=>by unfold del at h; split at h; cases h; exact h
theorem gone {V:Env} {R R':Heap} {p:Nat} {o:AObj} {l:List (Nat×AObj)} {KP:Heap→Prop} (h0:LeH R R') (h:offR R [(p,o)] l) (hK:KP (del R p)):panW V (hp R' l) KP:=xO ((uU h0 h).trans (kZ _ p)) (wS hK)
theorem vV {V:Env} {R R':Heap} {p:Nat} {o:AObj} {l:List (Nat×AObj)} {KP:Heap→Prop} (h0:LeH R R') (h:offR R [(p,o)] l) (hK:KP (del R p)):panW V (del (hp R' l) p) KP:=xO (uU h0 h) (wS hK)
def One {α:Type} (eb:EbG) (B:Heap) (p:Nat) (l:List Tok) (g:FuncId) (args:List A) (enc:α→D) (q:RdS→α×RdS):Prop :=
 ∀ (G:Heap) (s:RdS),LeH B G→PsAt G p l s→∀ (K:A→Heap→Prop) (KP:Value→Heap→Prop),((q s).2.err=0→K (.d (enc (q s).1)) (pset G p l (q s).2))→((q s).2.err≠0→KP (boxE eb (q s).2.err) (del G p))→ACallP Tryz.prog (zK eb) g args G K KP
theorem zBY {z:List A} {cs:List D} (h:z.length=cs.length):yB z 0 (cs.map A.d)=cs.map A.d:=by simp [yB,h]
attribute [go_sem] zIv
@[go_sem] theorem smTm {t:Tm} {a1 a2 a3 a4:A}:yB [a1,a2,a3,a4] 0 (t.cs.map A.d)=t.cs.map A.d:=zBY (by simp [t.cs_length])
@[go_sem] theorem tkTm {t:Tm}:(t.cs.map A.d).take 4=t.cs.map A.d:=List.take_of_length_le (by simp [t.cs_length])
@[go_sem] theorem smTy {t:Ty} {a1 a2 a3:A}:yB [a1,a2,a3] 0 (t.cs.map A.d)=t.cs.map A.d:=zBY (by simp [t.cs_length])
@[go_sem] theorem tkTy {t:Ty}:(t.cs.map A.d).take 3=t.cs.map A.d:=List.take_of_length_le (by simp [t.cs_length])
@[go_sem] theorem smGl {t:Gl} {a1 a2 a3 a4 a5 a6 a7 a8 a9 a10 a11 a12:A}:yB [a1,a2,a3,a4,a5,a6,a7,a8,a9,a10,a11,a12] 0 (t.cs.map A.d)=t.cs.map A.d:=zBY (by simp [t.cs_length])
@[go_sem] theorem tkGl {t:Gl}:(t.cs.map A.d).take 12=t.cs.map A.d:=List.take_of_length_le (by simp [t.cs_length])
def noH:Heap:=fun _=>none
theorem xV (H:Heap):LeH noH H:=fun _ _ h=>by cases h
theorem jT {eb:EbG} (H:Heap) (a:A) (g:Nat) (K:A→Heap→Prop) (KP:Value→Heap→Prop) (hK:KP (boxV eb g) H):ACallP Tryz.prog (zK eb) 29 [a,.d (.sent g)] H K KP:=by
 refine ACallP.by mixed fn29 (by simp) ?_
 conv in s29=>cbv
 refine zG ?_
 simp -dsimp only [go_sem,gS]
 exact wS hK
theorem zCR {eb:EbG} (H:Heap) (p:Nat) (l:List Tok) (s:RdS) (h:PsAt H p l s) (K:A→Heap→Prop) (hK:K (.d (jW l s.pos).d) H):ACall Tryz.prog (zK eb) 102 [.ref p 0] H K:=by
 have hsh:=h.short
 rw [←h.self] at hK
 refine ACall.hp_in h.at_ ?_
 refine ACall.by mixed zXh (by simp) ?_
 conv in s102=>cbv
 refine zG ?_
 simp -dsimp only [go_sem,gS]
 refine yI (fun b2 f2=>?_)
 simp only [zN,zU] at f2
 simp -dsimp only [go_sem,gS,f2]
 refine zD (fun h1=>?_) (fun h1=>?_)
 ·have h1':s.pos < l.length:=by have:=of_decide_eq_true h1; omega
  obtain ⟨t,ht⟩:∃ t,l[s.pos]?=some t:=⟨l[s.pos],by simp [h1']⟩
  rw [zAg ht] at hK
  simp -dsimp only [go_sem,gS,f2,ht,h1',Tok.d,Tok.cs]
  refine zB (G:=hp H [(p,.var (psA l s.pos))]) (yM (by simp only [hpS,eq_self,implies_true,f2]) (by simp only [hpS,eq_self,implies_true,f2])) (zC ?_)
  exact hK
 ·have h1':l.length≤s.pos:=by have:=of_decide_eq_false h1; omega
  rw [zCX h1'] at hK
  simp -dsimp only [go_sem,gS,f2]
  refine zB (G:=hp H [(p,.var (psA l s.pos))]) (yM (by simp only [hpS,eq_self,implies_true,f2]) (by simp only [hpS,eq_self,implies_true,f2])) (zC ?_)
  exact hK
theorem zOy {l:List Tok} {t:ByteArray} {s:RdS} (he:s.err=0):ris l t s=(decide ((jW l s.pos).text=t) && (decide ((jW l s.pos).kind=4) || decide ((jW l s.pos).kind=1))):=by
 unfold ris rend jW
 rw [he]
 cases h:l[s.pos]? with
 | none =>
  have:=List.getElem?_eq_none_iff.1 h
  simp [this]
 | some k =>
  have:=(List.getElem?_eq_some_iff.1 h).1
  have h2:¬ l.length≤s.pos:=by omega
  simp [h2,Bool.or_comm]
theorem zLM {eb:EbG} (H:Heap) (p:Nat) (l:List Tok) (s:RdS) (t:ByteArray) (h:PsAt H p l s) (K:A→Heap→Prop) (hK:K (.d (.bool (ris l t s))) H):ACall Tryz.prog (zK eb) 110 [.ref p 0,.d (.str t)] H K:=by
 rw [zOy h.ok,←h.self] at hK
 refine ACall.hp_in h.at_ ?_
 refine ACall.by mixed zXn (by simp) ?_
 conv in s110=>cbv
 refine zG ?_
 simp -dsimp only [go_sem,gS]
 refine zCR _ p l s (.len h.short h.le h.ok (by simp only [hpS,eq_self,implies_true,h.short])) _ ?_
 generalize jW l s.pos=k at hK ⊢
 simp -dsimp only [go_sem,gS,Tok.d,Tok.cs]
 refine yI (fun b5 f5=>?_)
 simp only [zN,zU] at f5
 simp -dsimp only [go_sem,gS,f5]
 refine zD (fun h1=>?_) (fun h1=>?_)
 ·simp -dsimp only [go_sem,gS,f5,h1]
  refine zD (fun h2=>?_) (fun h2=>?_)
  ·simp -dsimp only [go_sem,gS,f5,h2]
   refine zB (G:=hp H [(p,.var (psA l s.pos))]) (yM (by simp only [hpS,eq_self,implies_true,f5]) (by simp only [hpS,eq_self,implies_true,f5])) (zC ?_)
   have hK':K _ (hp H [(p,.var (psA l s.pos))]):=hK
   simpa [h1,h2] using hK'
  ·simp -dsimp only [go_sem,gS,f5,h2]
   refine zB (G:=hp H [(p,.var (psA l s.pos))]) (yM (by simp only [hpS,eq_self,implies_true,f5]) (by simp only [hpS,eq_self,implies_true,f5])) (zC ?_)
   have hK':K _ (hp H [(p,.var (psA l s.pos))]):=hK
   simpa [h1,h2] using hK'
 ·simp -dsimp only [go_sem,gS,f5,h1]
  refine zB (G:=hp H [(p,.var (psA l s.pos))]) (yM (by simp only [hpS,eq_self,implies_true,f5]) (by simp only [hpS,eq_self,implies_true,f5])) (zC ?_)
  have hK':K _ (hp H [(p,.var (psA l s.pos))]):=hK
  simpa [h1] using hK'
theorem zQc {eb:EbG} (H:Heap) (p:Nat) (l:List Tok) (s:RdS) (h:PsAt H p l s) (K:A→Heap→Prop) (hK:K (.d (jW l s.pos).d) (pset H p l ⟨s.pos+1,0⟩)):ACall Tryz.prog (zK eb) 106 [.ref p 0] H K:=by
 have hsh:=h.short
 have hle:=h.le
 refine ACall.hp_in h.at_ ?_
 refine ACall.by mixed zXj (by simp) ?_
 conv in s106=>cbv
 refine zG ?_
 simp -dsimp only [go_sem,gS]
 refine yI (fun b2 f2=>?_)
 simp only [zN,zU] at f2
 simp -dsimp only [go_sem,gS,f2]
 refine zCR _ p l s (.len h.short h.le h.ok (by simp only [hpS,eq_self,implies_true,f2])) _ ?_
 have e:=qT (k:=s.pos) (by omega)
 generalize jW l s.pos=k at hK ⊢
 simp -dsimp only [go_sem,gS,Tok.d,Tok.cs,f2]
 refine yI (fun b3 f3=>?_)
 simp only [zN,zU] at f3
 simp -dsimp only [go_sem,gS,f2,f3,e]
 refine zB (G:=hp H [(p,.var (psA l (s.pos+1)))]) (yM (by simp only [hpS,eq_self,implies_true,f2,f3]) (by simp only [hpS,eq_self,implies_true,f2,f3])) (zC ?_)
 exact hK
theorem zQT {l:List Tok} {t:ByteArray} {s:RdS} (h:ris l t s=true):rgot l t s=(true,⟨s.pos+1,s.err⟩):=by rw [rgot,if_pos h]
theorem zQU {l:List Tok} {t:ByteArray} {s:RdS} (h:ris l t s=false):rgot l t s=(false,s):=by rw [rgot,if_neg (by simp [h])]
theorem xL {eb:EbG} (H:Heap) (p:Nat) (l:List Tok) (s:RdS) (t:ByteArray) (h:PsAt H p l s) (K:A→Heap→Prop) (hK:K (.d (.bool (rgot l t s).1)) (pset H p l (rgot l t s).2)):ACall Tryz.prog (zK eb) 67 [.ref p 0,.d (.str t)] H K:=by
 have hsh:=h.short
 have hle:=h.le
 have hp:=h.at_
 refine ACall.by mixed fn67 (by simp) ?_
 conv in s67=>cbv
 refine zG ?_
 simp -dsimp only [go_sem,gS]
 refine zLM _ p l s t h _ ?_
 cases hi:ris l t s with
 | true =>
  rw [zQT hi] at hK
  have e:=qT (k:=s.pos) (by omega)
  simp -dsimp only [go_sem,gS,hp,e]
  refine zC ?_
  exact hK
 | false =>
  rw [zQU hi,h.self] at hK
  simp -dsimp only [go_sem,gS]
  exact zC hK
theorem zAm {eb:EbG} [On eb 1] (H:Heap) (p:Nat) (l:List Tok) (s:RdS) (t:ByteArray) (h:PsAt H p l s) (K:A→Heap→Prop) (KP:Value→Heap→Prop)
  (hK:(yR l t s).err=0→K (.tup []) (pset H p l (yR l t s))) (hP:(yR l t s).err≠0→KP (boxE eb (yR l t s).err) (del H p)):ACallP Tryz.prog (zK eb) 31 [.ref p 0,.d (.str t)] H K KP:=by
 refine ACallP.by mixed fn31 (by simp) ?_
 conv in s31=>cbv
 refine zG ?_
 simp -dsimp only [go_sem,gS]
 refine xL _ p l s t h _ ?_
 have he:=h.ok
 cases hi:(rgot l t s).1 with
 | true =>
  have e:yR l t s=(rgot l t s).2:=by rw [yR,if_pos he,if_pos hi]
  rw [e] at hK
  simp -dsimp only [go_sem,gS]
  exact zC (hK (by rw [wE]; exact he))
 | false =>
  have e2:=zT hi
  have e:yR l t s=⟨s.pos,2⟩:=by rw [yR,if_pos he,if_neg (by simp [hi]),e2,uC,if_pos he]
  rw [e] at hP
  rw [e2,h.self]
  simp -dsimp only [go_sem,gS,vP inferInstance]
  refine jT _ _ _ _ _ ?_
  simp -dsimp only [go_sem,gS]
  exact xO (kZ H p) (wS (hP (by simp only; omega)))
theorem zHg {eb:EbG} (H:Heap) (s:ByteArray) (K:A→Heap→Prop) (hK:K (.d (.bool (xF s))) H):ACall Tryz.prog (zK eb) 111 [.d (.str s)] H K:=by
 refine ACall.by mixed zXo (by simp) ?_
 conv in s111=>cbv
 refine zG ?_
 simp -dsimp only [go_sem,gS]
 repeat' (first | (refine zD (fun h=>?_) (fun h=>?_) <;> (try simp -dsimp only [go_sem,gS, *])) | (refine yO (fun b v hb hn hm hv=>?_); (try simp -dsimp only [go_sem,gS, *])) | (refine yL (fun b hb hn hm=>?_); (try simp -dsimp only [go_sem,gS, *])) | (refine qR (fun b v hb hn hm hv=>?_); (try simp -dsimp only [go_sem,gS, *])) | (refine zA (by omega) ?_; (try simp -dsimp only [go_sem,gS, *])) | (refine zAE ?_ (fun h=>?_) <;> (try simp -dsimp only [go_sem,gS, *])) | (refine And.intro ?_ ?_ <;> (try simp -dsimp only [go_sem,gS, *])) | (refine (fun (v:Value) (hv:v.ownBlock=some _)=>?_); (try simp -dsimp only [go_sem,gS, *])))
 all_goals refine zC ?_
 all_goals
  have hb:∀ b,xF s=b→K (.d (.bool b)) H:=fun b h=>h ▸ hK
  refine hb _ ?_
  simp only [decide_eq_true_eq,decide_eq_false_iff_not] at *
  simp [xF,reserved,eq_comm (b:=s), *]
theorem zFH {l:List Tok} {kind:Int} {s:RdS} (he:s.err=0) (hk:kind≠0):zS l kind s=if (jW l s.pos).kind=kind∧¬ (kind=1∧xF (jW l s.pos).text=true) then ((jW l s.pos).text,⟨s.pos+1,0⟩) else (⟨#[]⟩,⟨s.pos,2⟩):=by
 unfold zS rend jW uC
 rw [he]
 cases h:l[s.pos]? with
 | none =>
  have:=List.getElem?_eq_none_iff.1 h
  simp [this]
  exact fun e=>absurd e.symm hk
 | some k =>
  have:=(List.getElem?_eq_some_iff.1 h).1
  have h2:¬ l.length≤s.pos:=by omega
  simp only [h2,decide_false,Bool.or_false,Bool.not_true,decide_true,Bool.false_eq_true,if_false,if_true]
  by_cases h3:k.kind=kind <;> by_cases h4:kind=1∧xF k.text=true <;> simp [h3,h4]
theorem zBR {eb:EbG} [On eb 1] (p:Nat) (l:List Tok):One eb noH p l 68 [.ref p 0] D.str (zS l 1):=by
 intro H s _ h K KP hK hP
 have hsh:=h.short
 have hle:=h.le
 rw [zFH h.ok (by decide)] at hK hP
 refine ACallP.hp_in h.at_ ?_
 refine ACallP.by mixed fn68 (by simp) ?_
 conv in s68=>cbv
 refine zG ?_
 simp -dsimp only [go_sem,gS]
 refine zCR _ p l s (.len h.short h.le h.ok (by simp only [hpS,eq_self,implies_true,h.short])) _ ?_
 have e:=qT (k:=s.pos) (by omega)
 generalize jW l s.pos=k at hK hP ⊢
 simp -dsimp only [go_sem,gS,Tok.d,Tok.cs]
 refine yI (fun b3 f3=>?_)
 simp only [zN,zU] at f3
 simp -dsimp only [go_sem,gS,f3]
 have bad:¬ (k.kind=1∧¬ ((1:Int)=1∧xF k.text=true))→panW (zK eb) (hp H [(p,.var (psA l s.pos)),(b3,.var [.d (.int .i64 k.kind),.d (.str k.text),.d (.int .i64 k.int)])]) (KP (boxV eb (errG 2))):=fun hn=>by
  rw [if_neg hn] at hP
  exact gone (o:=.var (psA l s.pos)) (.refl _) (by simp only [hpS,eq_self,implies_true,f3]) (hP (by simp only; omega))
 refine zD (fun h1=>?_) (fun h1=>?_)
 ·simp -dsimp only [go_sem,gS,f3,h1,vP inferInstance]
  refine jT _ _ _ _ _ ?_
  simp -dsimp only [go_sem,gS]
  exact bad (by simp at h1; simp [h1])
 ·simp -dsimp only [go_sem,gS,f3,h1]
  refine zHg _ _ _ ?_
  cases h2:xF k.text with
  | true =>
   simp -dsimp only [go_sem,gS,f3,vP inferInstance]
   refine jT _ _ _ _ _ ?_
   simp -dsimp only [go_sem,gS]
   exact bad (by simp [h2])
  | false =>
   have hk:k.kind=1∧¬ ((1:Int)=1∧xF k.text=true):=by simp at h1; simp [h1,h2]
   rw [if_pos hk] at hK
   simp -dsimp only [go_sem,gS,f3,e]
   refine zB (G:=hp H [(p,.var (psA l (s.pos+1)))]) (yM (by simp only [hpS,eq_self,implies_true,f3]) (by simp only [hpS,eq_self,implies_true,f3])) (zC (hK rfl))
theorem zE1 {eb:EbG} [On eb 1] (p:Nat) (l:List Tok):One eb noH p l 70 [.ref p 0] D.str (zS l 2):=by
 intro H s _ h K KP hK hP
 have hsh:=h.short
 have hle:=h.le
 rw [zFH h.ok (by decide)] at hK hP
 refine ACallP.hp_in h.at_ ?_
 refine ACallP.by mixed fn70 (by simp) ?_
 conv in s70=>cbv
 refine zG ?_
 simp -dsimp only [go_sem,gS]
 refine zCR _ p l s (.len h.short h.le h.ok (by simp only [hpS,eq_self,implies_true,h.short])) _ ?_
 have e:=qT (k:=s.pos) (by omega)
 generalize jW l s.pos=k at hK hP ⊢
 simp -dsimp only [go_sem,gS,Tok.d,Tok.cs]
 refine yI (fun b3 f3=>?_)
 simp only [zN,zU] at f3
 simp -dsimp only [go_sem,gS,f3]
 refine zD (fun h1=>?_) (fun h1=>?_)
 ·simp -dsimp only [go_sem,gS,f3,h1,vP inferInstance]
  refine jT _ _ _ _ _ ?_
  simp -dsimp only [go_sem,gS]
  rw [if_neg (by simp at h1; simp [h1])] at hP
  exact gone (o:=.var (psA l s.pos)) (.refl _) (by simp only [hpS,eq_self,implies_true,f3]) (hP (by simp only; omega))
 ·have hk:k.kind=2∧¬ ((2:Int)=1∧xF k.text=true):=by simp at h1; simp [h1]
  rw [if_pos hk] at hK
  simp -dsimp only [go_sem,gS,f3,h1,e]
  refine zB (G:=hp H [(p,.var (psA l (s.pos+1)))]) (yM (by simp only [hpS,eq_self,implies_true,f3]) (by simp only [hpS,eq_self,implies_true,f3])) (zC (hK rfl))
theorem zD4 {eb:EbG} [On eb 3] (H:Heap) (p:Nat) (l:List Tok) (s:RdS) (n:Nat) (hps:PsAt H p l s) (K:A→Heap→Prop) (KP:Value→Heap→Prop)
  (hK:(yD l n s).err=0→K (.tup []) (pset H p l (yD l n s))) (hP:(yD l n s).err≠0→KP (boxE eb (yD l n s).err) (del H p)):ACallP Tryz.prog (zK eb) 101 [.ref p 0,.d (.int .i64 n)] H K KP:=by
 have hsh:=hps.short
 have hp:=hps.at_
 rw [zBv hps.ok] at hK hP
 refine ACallP.by mixed zXg (by simp) ?_
 conv in s101=>cbv
 refine zG ?_
 simp -dsimp only [go_sem,gS]
 have hs:=hps.self
 have ok:=hps.ok
 repeat' (first | (refine zD (fun h=>?_) (fun h=>?_) <;> (try simp -dsimp only [go_sem,gS, *,hp])) | (refine yO (fun b v hb hn hm hv=>?_); (try simp -dsimp only [go_sem,gS, *,hp])) | (refine yL (fun b hb hn hm=>?_); (try simp -dsimp only [go_sem,gS, *,hp])) | (refine qR (fun b v hb hn hm hv=>?_); (try simp -dsimp only [go_sem,gS, *,hp])) | (refine zA (by omega) ?_; (try simp -dsimp only [go_sem,gS, *,hp])) | (refine zAE ?_ (fun h=>?_) <;> (try simp -dsimp only [go_sem,gS, *,hp])) | (refine And.intro ?_ ?_ <;> (try simp -dsimp only [go_sem,gS, *,hp])) | (refine (fun (v:Value) (hv:v.ownBlock=some _)=>?_); (try simp -dsimp only [go_sem,gS, *,hp])))
 ·rename_i h1
  have h1':=of_decide_eq_true h1
  have h2':=of_decide_eq_true h
  rw [if_pos ⟨by omega,by omega⟩] at hP
  simp -dsimp only [go_sem,gS,vP inferInstance]
  refine jT _ _ _ _ _ ?_
  simp -dsimp only [go_sem,gS]
  exact xO (kZ H p) (wS (hP (by simp only; omega)))
 ·have h2':=of_decide_eq_false h
  rw [if_neg (by omega),hs] at hK
  exact zC (hK ok)
 ·have h1':=of_decide_eq_false h
  rw [if_neg (by omega),hs] at hK
  exact zC (hK ok)
end Go.Aug

/- The program's parser: rows. -/
namespace Go.Aug
open Go.Proofs
set_option maxRecDepth 100000
set_option linter.unusedSimpArgs false
attribute [local irreducible] hid andK letA zR wN xX yH xR xE wR idxA ldV ldD addO xD appTo wF slA srcK nilQ retW gif sgd yT svc sops xQ yX aopO xT yU aBin aUn wK aLen zL yW zI yG xC yF yZ zJ zM yV zX yE xG xU frzM putE newK newV wP ACall xH wD zW sret cnd szs nilC yK zQ yA
attribute [local go_sem] Int.natCast_zero
set_option maxHeartbeats 2000000 in
theorem zJa {eb:EbG} [On eb 1] [On eb 0] (B H:Heap) (p:Nat) (l:List Tok) (s:RdS) (g:FuncId) (caps:List A) (q:RdS→Tm×RdS) (h:PsAt H p l s) (hB:LeH B H) (hBp:B p=none)
  (hq:vI l q) (hend:∀ s,rend l s=true→(q s).2.err≠0) (hcl:zH Tryz.prog g=true) (hpan:(zK eb).pan g=true)
  (hone:One eb B p l g caps Tm.d q)
  (K:A→Heap→Prop) (KP:Value→Heap→Prop) (hK:(yC q l 10 [] s).2.err=0→K (.d (.slice ((yC q l 10 [] s).1.map Tm.d))) (pset H p l (yC q l 10 [] s).2)) (hP:(yC q l 10 [] s).2.err≠0→KP (boxE eb (yC q l 10 [] s).2.err) (del H p)) :
  ACallP Tryz.prog (zK eb) 77 [.ref p 0,.func g caps] H K KP:=by
 rw [zBt h.ok] at hK hP
 refine ACallP.by mixed fn77 (by simp) ?_
 conv in s77=>cbv
 refine zG ?_
 simp -dsimp only [go_sem,gS]
 refine xL _ p l s _ h _ ?_
 have he:=h.ok
 have hsh:=h.short
 cases hg:(rgot l ⟨#[40]⟩ s).1 with
 | false =>
  rw [zT hg,h.self]
  rw [hg] at hK
  simp only [Bool.false_eq_true,if_false,h.self] at hK
  simp -dsimp only [go_sem,gS]
  refine zZ ?_
  simp -dsimp only [go_sem,gS]
  exact zC (hK he)
 | true =>
  simp only [hg,if_true] at hK hP
  have hle1:=yQ (t:=⟨#[40]⟩) h.le
  have her:(rgot l ⟨#[40]⟩ s).2.err=0:=by rw [wE]; exact he
  generalize (rgot l ⟨#[40]⟩ s).2=s1 at hK hP hle1 her ⊢
  generalize hres:zBD q l 9 [] s1=res at hK hP
  simp -dsimp only [go_sem,gS]
  refine yP (X:=PRow Tm) (fun x=>[(0,.ref p 0),(1,.func g caps),(5,x.a)])
   (fun x G=>G=hp x.R [(p,.var (psA l x.s.pos))]∧Acc H [p] 39 4 (x.xs.map Tm.d) x.a x.R∧zBD q l x.k x.xs x.s=res∧x.s.err=0∧x.s.pos≤l.length∧x.k+x.xs.length=9∧1≤x.k)
   (fun x=>x.k) ⟨9,[],s1,.nils,H⟩ _ ⟨rfl,Acc.nils ..,hres,her,hle1,rfl,by simp only; omega⟩ (by simp -dsimp only [go_sem,gS]) (.refl _) ?_
  rintro ⟨k,xs,s2,a,R⟩ G ⟨rfl,hacc,hrun,he2,hle2,hk,hk1⟩
  simp only at hacc hrun he2 hle2 hk hk1
  have hok:okK [p] R [(p,.var (psA l s2.pos))]:=by simp only [hpS,eq_self,implies_true,hsh]
  simp -dsimp only [go_sem,gS]
  refine zA (hacc.lenable (by simp -dsimp only [go_sem,gS])) ?_
  rw [hacc.len hok]
  simp -dsimp only [go_sem,gS]
  have hBG:LeH B (hp R [(p,.var (psA l s2.pos))]):=zAt (hB.trans hacc.le) (by simp only [hpS,eq_self,implies_true,hBp])
  have hdel:∀ n,LeH (del H p) (del (hp R [(p,.var (psA l n))]) p):=fun n=>uU (o:=.var (psA l n)) hacc.le (by simp only [hpS,eq_self,implies_true,hBp])
  refine zD (fun h1=>?_) (fun h1=>?_)
  ·have h1':xs.length=8:=by have:=of_decide_eq_true h1; omega
   simp -dsimp only [go_sem,gS,h1]
   refine zD (fun h2=>?_) (fun h2=>?_)
   ·have h2':s2.pos < l.length:=by have:=of_decide_eq_true h2; omega
    rw [zCt he2 h1' h2'] at hrun
    rw [←hrun] at hP
    simp -dsimp only [go_sem,gS,vP inferInstance]
    refine jT _ _ _ _ _ ?_
    simp -dsimp only [go_sem,gS]
    exact xO ((hdel _).trans (kZ _ p)) (wS (hP (by simp only; omega)))
   ·have h2':¬ s2.pos < l.length:=by have:=of_decide_eq_false h2; omega
    rw [zAw he2 (fun h=>h2' h.2)] at hrun
    have hbad:=hend s2 (by rw [jG he2]; simp; omega)
    rw [yJ hbad] at hrun
    rw [←hrun] at hP
    simp -dsimp only [go_sem,gS,h2,hcl,hpan]
    refine hone _ s2 hBG (.len hsh hle2 he2 (by simp only [hpS,eq_self,implies_true,hsh])) _ _ (fun h=>absurd h hbad) (fun _=>?_)
    simp -dsimp only [go_sem,gS]
    exact xO (hdel _) (wS (hP hbad))
  ·have h1':¬ xs.length=8:=by have:=of_decide_eq_false h1; omega
   rw [zAw he2 (fun h=>h1' h.1)] at hrun
   simp -dsimp only [go_sem,gS,h1,hcl,hpan]
   refine hone _ s2 hBG (.len hsh hle2 he2 (by simp only [hpS,eq_self,implies_true,hsh])) _ _ (fun h3=>?_) (fun h3=>?_)
   ·have hle3:=hq.le s2 hle2
    have hcs:=(q s2).1.cs_length
    generalize (q s2).1=t at hrun hcs ⊢
    generalize (q s2).2=s3 at hrun hle3 h3 ⊢
    obtain ⟨k,rfl⟩:∃ j,k=j+1:=⟨k - 1,by omega⟩
    simp -dsimp only [go_sem,gS,hcs,Tm.d]
    refine vD (fun b6 v6 f6 w6=>?_)
    simp only [zN,zU] at f6
    simp -dsimp only [go_sem,gS,f6,hcs,Tm.d]
    refine hacc.appTo (by simp only [hpS,eq_self,implies_true,f6]) (by simp only [hpS,eq_self,implies_true,hsh]) (by simp only [List.length_map,List.length_cons,List.length_nil]; omega) (fun a' R' hacc' hn=>?_)
    have hone':=hacc'.one
    have f60:=hacc.le.free f6.2.2
    have f6':=hn b6 (by simp only [hpS,eq_self,implies_true,f6]) f6.2.2
    rw [show xs.map Tm.d++[D.agg t.cs]=(xs++[t]).map Tm.d by simp [Tm.d]] at hacc'
    have hne:xs++[t]≠[]:=by simp
    simp -dsimp only [go_sem,gS,f6,hone']
    refine xL _ p l s3 _ (.len hsh hle3 h3 (by simp only [hpS,eq_self,implies_true,f6])) _ ?_
    cases hg3:(rgot l ⟨#[41]⟩ s3).1 with
    | true =>
     rw [zAO h3 hne hg3] at hrun
     rw [←hrun] at hK
     have her4:(rgot l ⟨#[41]⟩ s3).2.err=0:=by rw [wE]; exact h3
     simp -dsimp only [go_sem,gS,f6]
     refine zZ ?_
     refine hacc'.deep (by simp only [hpS,eq_self,implies_true,f6']) (fun R'' hle'' hn''=>?_)
     refine zB (G:=hp H [(p,.var (psA l (rgot l ⟨#[41]⟩ s3).2.pos))]) (vB hle'' (by simp only [hpS,eq_self,implies_true,f6]) (by simp only [hpS,eq_self,implies_true,f60])) (zC (hK her4))
    | false =>
     rw [zAP h3 hne hg3] at hrun
     rw [zT hg3]
     simp -dsimp only [go_sem,gS,f6]
     refine zAm _ p l s3 _ (.len hsh hle3 h3 (by simp only [hpS,eq_self,implies_true,f6])) _ _ (fun h4=>?_) (fun h4=>?_)
     ·rw [if_pos h4] at hrun
      have hle4:=wT (t:=⟨#[44]⟩) hle3
      simp -dsimp only [go_sem,gS,f6]
      refine zP ⟨k,xs++[t],yR l ⟨#[44]⟩ s3,a',R'⟩ _ ⟨rfl,hacc',hrun,h4,hle4,by simp; omega,by simp only; omega⟩ (Nat.lt_succ_self k) (by simp -dsimp only [go_sem,gS]) (yM (by simp only [hpS,eq_self,implies_true,f6,f6']) (by simp only [hpS,eq_self,implies_true,f6,f6']))
     ·rw [if_neg h4] at hrun
      rw [←hrun] at hP
      simp -dsimp only [go_sem,gS]
      refine xO (uU (o:=.var (psA l s3.pos)) hacc'.le (by simp only [hpS,eq_self,implies_true,f6,f60])) (wS (hP h4))
   ·rw [yJ h3] at hrun
    rw [←hrun] at hP
    simp -dsimp only [go_sem,gS]
    exact xO (hdel _) (wS (hP h3))
set_option maxHeartbeats 2000000 in
theorem zGi {eb:EbG} [On eb 1] [On eb 0] (B H:Heap) (p:Nat) (l:List Tok) (s:RdS) (g:FuncId) (caps:List A) (q:RdS→Ty×RdS) (h:PsAt H p l s) (hB:LeH B H) (hBp:B p=none)
  (hq:vI l q) (hend:∀ s,rend l s=true→(q s).2.err≠0) (hcl:zH Tryz.prog g=true) (hpan:(zK eb).pan g=true)
  (hone:One eb B p l g caps Ty.d q)
  (K:A→Heap→Prop) (KP:Value→Heap→Prop) (hK:(yC q l 10 [] s).2.err=0→K (.d (.slice ((yC q l 10 [] s).1.map Ty.d))) (pset H p l (yC q l 10 [] s).2)) (hP:(yC q l 10 [] s).2.err≠0→KP (boxE eb (yC q l 10 [] s).2.err) (del H p)) :
  ACallP Tryz.prog (zK eb) 72 [.ref p 0,.func g caps] H K KP:=by
 rw [zBt h.ok] at hK hP
 refine ACallP.by mixed fn72 (by simp) ?_
 conv in s72=>cbv
 refine zG ?_
 simp -dsimp only [go_sem,gS]
 refine xL _ p l s _ h _ ?_
 have he:=h.ok
 have hsh:=h.short
 cases hg:(rgot l ⟨#[40]⟩ s).1 with
 | false =>
  rw [zT hg,h.self]
  rw [hg] at hK
  simp only [Bool.false_eq_true,if_false,h.self] at hK
  simp -dsimp only [go_sem,gS]
  refine zZ ?_
  simp -dsimp only [go_sem,gS]
  exact zC (hK he)
 | true =>
  simp only [hg,if_true] at hK hP
  have hle1:=yQ (t:=⟨#[40]⟩) h.le
  have her:(rgot l ⟨#[40]⟩ s).2.err=0:=by rw [wE]; exact he
  generalize (rgot l ⟨#[40]⟩ s).2=s1 at hK hP hle1 her ⊢
  generalize hres:zBD q l 9 [] s1=res at hK hP
  simp -dsimp only [go_sem,gS]
  refine yP (X:=PRow Ty) (fun x=>[(0,.ref p 0),(1,.func g caps),(5,x.a)])
   (fun x G=>G=hp x.R [(p,.var (psA l x.s.pos))]∧Acc H [p] 63 3 (x.xs.map Ty.d) x.a x.R∧zBD q l x.k x.xs x.s=res∧x.s.err=0∧x.s.pos≤l.length∧x.k+x.xs.length=9∧1≤x.k)
   (fun x=>x.k) ⟨9,[],s1,.nils,H⟩ _ ⟨rfl,Acc.nils ..,hres,her,hle1,rfl,by simp only; omega⟩ (by simp -dsimp only [go_sem,gS]) (.refl _) ?_
  rintro ⟨k,xs,s2,a,R⟩ G ⟨rfl,hacc,hrun,he2,hle2,hk,hk1⟩
  simp only at hacc hrun he2 hle2 hk hk1
  have hok:okK [p] R [(p,.var (psA l s2.pos))]:=by simp only [hpS,eq_self,implies_true,hsh]
  simp -dsimp only [go_sem,gS]
  refine zA (hacc.lenable (by simp -dsimp only [go_sem,gS])) ?_
  rw [hacc.len hok]
  simp -dsimp only [go_sem,gS]
  have hBG:LeH B (hp R [(p,.var (psA l s2.pos))]):=zAt (hB.trans hacc.le) (by simp only [hpS,eq_self,implies_true,hBp])
  have hdel:∀ n,LeH (del H p) (del (hp R [(p,.var (psA l n))]) p):=fun n=>uU (o:=.var (psA l n)) hacc.le (by simp only [hpS,eq_self,implies_true,hBp])
  refine zD (fun h1=>?_) (fun h1=>?_)
  ·have h1':xs.length=8:=by have:=of_decide_eq_true h1; omega
   simp -dsimp only [go_sem,gS,h1]
   refine zD (fun h2=>?_) (fun h2=>?_)
   ·have h2':s2.pos < l.length:=by have:=of_decide_eq_true h2; omega
    rw [zCt he2 h1' h2'] at hrun
    rw [←hrun] at hP
    simp -dsimp only [go_sem,gS,vP inferInstance]
    refine jT _ _ _ _ _ ?_
    simp -dsimp only [go_sem,gS]
    exact xO ((hdel _).trans (kZ _ p)) (wS (hP (by simp only; omega)))
   ·have h2':¬ s2.pos < l.length:=by have:=of_decide_eq_false h2; omega
    rw [zAw he2 (fun h=>h2' h.2)] at hrun
    have hbad:=hend s2 (by rw [jG he2]; simp; omega)
    rw [yJ hbad] at hrun
    rw [←hrun] at hP
    simp -dsimp only [go_sem,gS,h2,hcl,hpan]
    refine hone _ s2 hBG (.len hsh hle2 he2 (by simp only [hpS,eq_self,implies_true,hsh])) _ _ (fun h=>absurd h hbad) (fun _=>?_)
    simp -dsimp only [go_sem,gS]
    exact xO (hdel _) (wS (hP hbad))
  ·have h1':¬ xs.length=8:=by have:=of_decide_eq_false h1; omega
   rw [zAw he2 (fun h=>h1' h.1)] at hrun
   simp -dsimp only [go_sem,gS,h1,hcl,hpan]
   refine hone _ s2 hBG (.len hsh hle2 he2 (by simp only [hpS,eq_self,implies_true,hsh])) _ _ (fun h3=>?_) (fun h3=>?_)
   ·have hle3:=hq.le s2 hle2
    have hcs:=(q s2).1.cs_length
    generalize (q s2).1=t at hrun hcs ⊢
    generalize (q s2).2=s3 at hrun hle3 h3 ⊢
    obtain ⟨k,rfl⟩:∃ j,k=j+1:=⟨k - 1,by omega⟩
    simp -dsimp only [go_sem,gS,hcs,Ty.d]
    refine vD (fun b6 v6 f6 w6=>?_)
    simp only [zN,zU] at f6
    simp -dsimp only [go_sem,gS,f6,hcs,Ty.d]
    refine hacc.appTo (by simp only [hpS,eq_self,implies_true,f6]) (by simp only [hpS,eq_self,implies_true,hsh]) (by simp only [List.length_map,List.length_cons,List.length_nil]; omega) (fun a' R' hacc' hn=>?_)
    have hone':=hacc'.one
    have f60:=hacc.le.free f6.2.2
    have f6':=hn b6 (by simp only [hpS,eq_self,implies_true,f6]) f6.2.2
    rw [show xs.map Ty.d++[D.agg t.cs]=(xs++[t]).map Ty.d by simp [Ty.d]] at hacc'
    have hne:xs++[t]≠[]:=by simp
    simp -dsimp only [go_sem,gS,f6,hone']
    refine xL _ p l s3 _ (.len hsh hle3 h3 (by simp only [hpS,eq_self,implies_true,f6])) _ ?_
    cases hg3:(rgot l ⟨#[41]⟩ s3).1 with
    | true =>
     rw [zAO h3 hne hg3] at hrun
     rw [←hrun] at hK
     have her4:(rgot l ⟨#[41]⟩ s3).2.err=0:=by rw [wE]; exact h3
     simp -dsimp only [go_sem,gS,f6]
     refine zZ ?_
     refine hacc'.deep (by simp only [hpS,eq_self,implies_true,f6']) (fun R'' hle'' hn''=>?_)
     refine zB (G:=hp H [(p,.var (psA l (rgot l ⟨#[41]⟩ s3).2.pos))]) (vB hle'' (by simp only [hpS,eq_self,implies_true,f6]) (by simp only [hpS,eq_self,implies_true,f60])) (zC (hK her4))
    | false =>
     rw [zAP h3 hne hg3] at hrun
     rw [zT hg3]
     simp -dsimp only [go_sem,gS,f6]
     refine zAm _ p l s3 _ (.len hsh hle3 h3 (by simp only [hpS,eq_self,implies_true,f6])) _ _ (fun h4=>?_) (fun h4=>?_)
     ·rw [if_pos h4] at hrun
      have hle4:=wT (t:=⟨#[44]⟩) hle3
      simp -dsimp only [go_sem,gS,f6]
      refine zP ⟨k,xs++[t],yR l ⟨#[44]⟩ s3,a',R'⟩ _ ⟨rfl,hacc',hrun,h4,hle4,by simp; omega,by simp only; omega⟩ (Nat.lt_succ_self k) (by simp -dsimp only [go_sem,gS]) (yM (by simp only [hpS,eq_self,implies_true,f6,f6']) (by simp only [hpS,eq_self,implies_true,f6,f6']))
     ·rw [if_neg h4] at hrun
      rw [←hrun] at hP
      simp -dsimp only [go_sem,gS]
      refine xO (uU (o:=.var (psA l s3.pos)) hacc'.le (by simp only [hpS,eq_self,implies_true,f6,f60])) (wS (hP h4))
   ·rw [yJ h3] at hrun
    rw [←hrun] at hP
    simp -dsimp only [go_sem,gS]
    exact xO (hdel _) (wS (hP h3))
set_option maxHeartbeats 2000000 in
theorem zLD {eb:EbG} [On eb 1] [On eb 0] (B H:Heap) (p:Nat) (l:List Tok) (s:RdS) (g:FuncId) (caps:List A) (q:RdS→ByteArray×RdS) (h:PsAt H p l s) (hB:LeH B H) (hBp:B p=none)
  (hq:vI l q) (hend:∀ s,rend l s=true→(q s).2.err≠0) (hcl:zH Tryz.prog g=true) (hpan:(zK eb).pan g=true)
  (hone:One eb B p l g caps D.str q)
  (K:A→Heap→Prop) (KP:Value→Heap→Prop) (hK:(yC q l 10 [] s).2.err=0→K (.d (.slice ((yC q l 10 [] s).1.map D.str))) (pset H p l (yC q l 10 [] s).2)) (hP:(yC q l 10 [] s).2.err≠0→KP (boxE eb (yC q l 10 [] s).2.err) (del H p)) :
  ACallP Tryz.prog (zK eb) 69 [.ref p 0,.meth g caps] H K KP:=by
 rw [zBt h.ok] at hK hP
 refine ACallP.by mixed fn69 (by simp) ?_
 conv in s69=>cbv
 refine zG ?_
 simp -dsimp only [go_sem,gS]
 refine xL _ p l s _ h _ ?_
 have he:=h.ok
 have hsh:=h.short
 cases hg:(rgot l ⟨#[40]⟩ s).1 with
 | false =>
  rw [zT hg,h.self]
  rw [hg] at hK
  simp only [Bool.false_eq_true,if_false,h.self] at hK
  simp -dsimp only [go_sem,gS]
  refine zZ ?_
  simp -dsimp only [go_sem,gS]
  exact zC (hK he)
 | true =>
  simp only [hg,if_true] at hK hP
  have hle1:=yQ (t:=⟨#[40]⟩) h.le
  have her:(rgot l ⟨#[40]⟩ s).2.err=0:=by rw [wE]; exact he
  generalize (rgot l ⟨#[40]⟩ s).2=s1 at hK hP hle1 her ⊢
  generalize hres:zBD q l 9 [] s1=res at hK hP
  simp -dsimp only [go_sem,gS]
  refine yP (X:=PRow ByteArray) (fun x=>[(0,.ref p 0),(1,.meth g caps),(5,x.a)])
   (fun x G=>G=hp x.R [(p,.var (psA l x.s.pos))]∧Acc H [p] 9 1 (x.xs.map D.str) x.a x.R∧zBD q l x.k x.xs x.s=res∧x.s.err=0∧x.s.pos≤l.length∧x.k+x.xs.length=9∧1≤x.k)
   (fun x=>x.k) ⟨9,[],s1,.nils,H⟩ _ ⟨rfl,Acc.nils ..,hres,her,hle1,rfl,by simp only; omega⟩ (by simp -dsimp only [go_sem,gS]) (.refl _) ?_
  rintro ⟨k,xs,s2,a,R⟩ G ⟨rfl,hacc,hrun,he2,hle2,hk,hk1⟩
  simp only at hacc hrun he2 hle2 hk hk1
  have hok:okK [p] R [(p,.var (psA l s2.pos))]:=by simp only [hpS,eq_self,implies_true,hsh]
  simp -dsimp only [go_sem,gS]
  refine zA (hacc.lenable (by simp -dsimp only [go_sem,gS])) ?_
  rw [hacc.len hok]
  simp -dsimp only [go_sem,gS]
  have hBG:LeH B (hp R [(p,.var (psA l s2.pos))]):=zAt (hB.trans hacc.le) (by simp only [hpS,eq_self,implies_true,hBp])
  have hdel:∀ n,LeH (del H p) (del (hp R [(p,.var (psA l n))]) p):=fun n=>uU (o:=.var (psA l n)) hacc.le (by simp only [hpS,eq_self,implies_true,hBp])
  refine zD (fun h1=>?_) (fun h1=>?_)
  ·have h1':xs.length=8:=by have:=of_decide_eq_true h1; omega
   simp -dsimp only [go_sem,gS,h1]
   refine zD (fun h2=>?_) (fun h2=>?_)
   ·have h2':s2.pos < l.length:=by have:=of_decide_eq_true h2; omega
    rw [zCt he2 h1' h2'] at hrun
    rw [←hrun] at hP
    simp -dsimp only [go_sem,gS,vP inferInstance]
    refine jT _ _ _ _ _ ?_
    simp -dsimp only [go_sem,gS]
    exact xO ((hdel _).trans (kZ _ p)) (wS (hP (by simp only; omega)))
   ·have h2':¬ s2.pos < l.length:=by have:=of_decide_eq_false h2; omega
    rw [zAw he2 (fun h=>h2' h.2)] at hrun
    have hbad:=hend s2 (by rw [jG he2]; simp; omega)
    rw [yJ hbad] at hrun
    rw [←hrun] at hP
    simp -dsimp only [go_sem,gS,h2,hcl,hpan,List.append_nil,List.nil_append]
    refine hone _ s2 hBG (.len hsh hle2 he2 (by simp only [hpS,eq_self,implies_true,hsh])) _ _ (fun h=>absurd h hbad) (fun _=>?_)
    simp -dsimp only [go_sem,gS]
    exact xO (hdel _) (wS (hP hbad))
  ·have h1':¬ xs.length=8:=by have:=of_decide_eq_false h1; omega
   rw [zAw he2 (fun h=>h1' h.1)] at hrun
   simp -dsimp only [go_sem,gS,h1,hcl,hpan,List.append_nil,List.nil_append]
   refine hone _ s2 hBG (.len hsh hle2 he2 (by simp only [hpS,eq_self,implies_true,hsh])) _ _ (fun h3=>?_) (fun h3=>?_)
   ·have hle3:=hq.le s2 hle2
    generalize (q s2).1=t at hrun ⊢
    generalize (q s2).2=s3 at hrun hle3 h3 ⊢
    obtain ⟨k,rfl⟩:∃ j,k=j+1:=⟨k - 1,by omega⟩
    simp -dsimp only [go_sem,gS]
    refine vD (fun b6 v6 f6 w6=>?_)
    simp only [zN,zU] at f6
    simp -dsimp only [go_sem,gS,f6]
    refine hacc.appTo (by simp only [hpS,eq_self,implies_true,f6]) (by simp only [hpS,eq_self,implies_true,hsh]) (by simp only [List.length_map,List.length_cons,List.length_nil]; omega) (fun a' R' hacc' hn=>?_)
    have hone':=hacc'.one
    have f60:=hacc.le.free f6.2.2
    have f6':=hn b6 (by simp only [hpS,eq_self,implies_true,f6]) f6.2.2
    rw [show xs.map D.str++[D.str t]=(xs++[t]).map D.str by simp] at hacc'
    have hne:xs++[t]≠[]:=by simp
    simp -dsimp only [go_sem,gS,f6,hone']
    refine xL _ p l s3 _ (.len hsh hle3 h3 (by simp only [hpS,eq_self,implies_true,f6])) _ ?_
    cases hg3:(rgot l ⟨#[41]⟩ s3).1 with
    | true =>
     rw [zAO h3 hne hg3] at hrun
     rw [←hrun] at hK
     have her4:(rgot l ⟨#[41]⟩ s3).2.err=0:=by rw [wE]; exact h3
     simp -dsimp only [go_sem,gS,f6]
     refine zZ ?_
     refine hacc'.deep (by simp only [hpS,eq_self,implies_true,f6']) (fun R'' hle'' hn''=>?_)
     refine zB (G:=hp H [(p,.var (psA l (rgot l ⟨#[41]⟩ s3).2.pos))]) (vB hle'' (by simp only [hpS,eq_self,implies_true,f6]) (by simp only [hpS,eq_self,implies_true,f60])) (zC (hK her4))
    | false =>
     rw [zAP h3 hne hg3] at hrun
     rw [zT hg3]
     simp -dsimp only [go_sem,gS,f6]
     refine zAm _ p l s3 _ (.len hsh hle3 h3 (by simp only [hpS,eq_self,implies_true,f6])) _ _ (fun h4=>?_) (fun h4=>?_)
     ·rw [if_pos h4] at hrun
      have hle4:=wT (t:=⟨#[44]⟩) hle3
      simp -dsimp only [go_sem,gS,f6]
      refine zP ⟨k,xs++[t],yR l ⟨#[44]⟩ s3,a',R'⟩ _ ⟨rfl,hacc',hrun,h4,hle4,by simp; omega,by simp only; omega⟩ (Nat.lt_succ_self k) (by simp -dsimp only [go_sem,gS]) (yM (by simp only [hpS,eq_self,implies_true,f6,f6']) (by simp only [hpS,eq_self,implies_true,f6,f6']))
     ·rw [if_neg h4] at hrun
      rw [←hrun] at hP
      simp -dsimp only [go_sem,gS]
      refine xO (uU (o:=.var (psA l s3.pos)) hacc'.le (by simp only [hpS,eq_self,implies_true,f6,f60])) (wS (hP h4))
   ·rw [yJ h3] at hrun
    rw [←hrun] at hP
    simp -dsimp only [go_sem,gS]
    exact xO (hdel _) (wS (hP h3))
set_option maxHeartbeats 2000000 in
theorem zJX {eb:EbG} [On eb 1] [On eb 0] (B H:Heap) (p:Nat) (l:List Tok) (s:RdS) (g:FuncId) (caps:List A) (q:RdS→Bool×RdS) (h:PsAt H p l s) (hB:LeH B H) (hBp:B p=none)
  (hq:vI l q) (hend:∀ s,rend l s=true→(q s).2.err≠0) (hcl:zH Tryz.prog g=true) (hpan:(zK eb).pan g=true)
  (hone:One eb B p l g caps D.bool q)
  (K:A→Heap→Prop) (KP:Value→Heap→Prop) (hK:(yC q l 10 [] s).2.err=0→K (.d (.slice ((yC q l 10 [] s).1.map D.bool))) (pset H p l (yC q l 10 [] s).2)) (hP:(yC q l 10 [] s).2.err≠0→KP (boxE eb (yC q l 10 [] s).2.err) (del H p)) :
  ACallP Tryz.prog (zK eb) 74 [.ref p 0,.meth g caps] H K KP:=by
 rw [zBt h.ok] at hK hP
 refine ACallP.by mixed fn74 (by simp) ?_
 conv in s74=>cbv
 refine zG ?_
 simp -dsimp only [go_sem,gS]
 refine xL _ p l s _ h _ ?_
 have he:=h.ok
 have hsh:=h.short
 cases hg:(rgot l ⟨#[40]⟩ s).1 with
 | false =>
  rw [zT hg,h.self]
  rw [hg] at hK
  simp only [Bool.false_eq_true,if_false,h.self] at hK
  simp -dsimp only [go_sem,gS]
  refine zZ ?_
  simp -dsimp only [go_sem,gS]
  exact zC (hK he)
 | true =>
  simp only [hg,if_true] at hK hP
  have hle1:=yQ (t:=⟨#[40]⟩) h.le
  have her:(rgot l ⟨#[40]⟩ s).2.err=0:=by rw [wE]; exact he
  generalize (rgot l ⟨#[40]⟩ s).2=s1 at hK hP hle1 her ⊢
  generalize hres:zBD q l 9 [] s1=res at hK hP
  simp -dsimp only [go_sem,gS]
  refine yP (X:=PRow Bool) (fun x=>[(0,.ref p 0),(1,.meth g caps),(5,x.a)])
   (fun x G=>G=hp x.R [(p,.var (psA l x.s.pos))]∧Acc H [p] 4 1 (x.xs.map D.bool) x.a x.R∧zBD q l x.k x.xs x.s=res∧x.s.err=0∧x.s.pos≤l.length∧x.k+x.xs.length=9∧1≤x.k)
   (fun x=>x.k) ⟨9,[],s1,.nils,H⟩ _ ⟨rfl,Acc.nils ..,hres,her,hle1,rfl,by simp only; omega⟩ (by simp -dsimp only [go_sem,gS]) (.refl _) ?_
  rintro ⟨k,xs,s2,a,R⟩ G ⟨rfl,hacc,hrun,he2,hle2,hk,hk1⟩
  simp only at hacc hrun he2 hle2 hk hk1
  have hok:okK [p] R [(p,.var (psA l s2.pos))]:=by simp only [hpS,eq_self,implies_true,hsh]
  simp -dsimp only [go_sem,gS]
  refine zA (hacc.lenable (by simp -dsimp only [go_sem,gS])) ?_
  rw [hacc.len hok]
  simp -dsimp only [go_sem,gS]
  have hBG:LeH B (hp R [(p,.var (psA l s2.pos))]):=zAt (hB.trans hacc.le) (by simp only [hpS,eq_self,implies_true,hBp])
  have hdel:∀ n,LeH (del H p) (del (hp R [(p,.var (psA l n))]) p):=fun n=>uU (o:=.var (psA l n)) hacc.le (by simp only [hpS,eq_self,implies_true,hBp])
  refine zD (fun h1=>?_) (fun h1=>?_)
  ·have h1':xs.length=8:=by have:=of_decide_eq_true h1; omega
   simp -dsimp only [go_sem,gS,h1]
   refine zD (fun h2=>?_) (fun h2=>?_)
   ·have h2':s2.pos < l.length:=by have:=of_decide_eq_true h2; omega
    rw [zCt he2 h1' h2'] at hrun
    rw [←hrun] at hP
    simp -dsimp only [go_sem,gS,vP inferInstance]
    refine jT _ _ _ _ _ ?_
    simp -dsimp only [go_sem,gS]
    exact xO ((hdel _).trans (kZ _ p)) (wS (hP (by simp only; omega)))
   ·have h2':¬ s2.pos < l.length:=by have:=of_decide_eq_false h2; omega
    rw [zAw he2 (fun h=>h2' h.2)] at hrun
    have hbad:=hend s2 (by rw [jG he2]; simp; omega)
    rw [yJ hbad] at hrun
    rw [←hrun] at hP
    simp -dsimp only [go_sem,gS,h2,hcl,hpan,List.append_nil,List.nil_append]
    refine hone _ s2 hBG (.len hsh hle2 he2 (by simp only [hpS,eq_self,implies_true,hsh])) _ _ (fun h=>absurd h hbad) (fun _=>?_)
    simp -dsimp only [go_sem,gS]
    exact xO (hdel _) (wS (hP hbad))
  ·have h1':¬ xs.length=8:=by have:=of_decide_eq_false h1; omega
   rw [zAw he2 (fun h=>h1' h.1)] at hrun
   simp -dsimp only [go_sem,gS,h1,hcl,hpan,List.append_nil,List.nil_append]
   refine hone _ s2 hBG (.len hsh hle2 he2 (by simp only [hpS,eq_self,implies_true,hsh])) _ _ (fun h3=>?_) (fun h3=>?_)
   ·have hle3:=hq.le s2 hle2
    generalize (q s2).1=t at hrun ⊢
    generalize (q s2).2=s3 at hrun hle3 h3 ⊢
    obtain ⟨k,rfl⟩:∃ j,k=j+1:=⟨k - 1,by omega⟩
    simp -dsimp only [go_sem,gS]
    refine vD (fun b6 v6 f6 w6=>?_)
    simp only [zN,zU] at f6
    simp -dsimp only [go_sem,gS,f6]
    refine hacc.appTo (by simp only [hpS,eq_self,implies_true,f6]) (by simp only [hpS,eq_self,implies_true,hsh]) (by simp only [List.length_map,List.length_cons,List.length_nil]; omega) (fun a' R' hacc' hn=>?_)
    have hone':=hacc'.one
    have f60:=hacc.le.free f6.2.2
    have f6':=hn b6 (by simp only [hpS,eq_self,implies_true,f6]) f6.2.2
    rw [show xs.map D.bool++[D.bool t]=(xs++[t]).map D.bool by simp] at hacc'
    have hne:xs++[t]≠[]:=by simp
    simp -dsimp only [go_sem,gS,f6,hone']
    refine xL _ p l s3 _ (.len hsh hle3 h3 (by simp only [hpS,eq_self,implies_true,f6])) _ ?_
    cases hg3:(rgot l ⟨#[41]⟩ s3).1 with
    | true =>
     rw [zAO h3 hne hg3] at hrun
     rw [←hrun] at hK
     have her4:(rgot l ⟨#[41]⟩ s3).2.err=0:=by rw [wE]; exact h3
     simp -dsimp only [go_sem,gS,f6]
     refine zZ ?_
     refine hacc'.deep (by simp only [hpS,eq_self,implies_true,f6']) (fun R'' hle'' hn''=>?_)
     refine zB (G:=hp H [(p,.var (psA l (rgot l ⟨#[41]⟩ s3).2.pos))]) (vB hle'' (by simp only [hpS,eq_self,implies_true,f6]) (by simp only [hpS,eq_self,implies_true,f60])) (zC (hK her4))
    | false =>
     rw [zAP h3 hne hg3] at hrun
     rw [zT hg3]
     simp -dsimp only [go_sem,gS,f6]
     refine zAm _ p l s3 _ (.len hsh hle3 h3 (by simp only [hpS,eq_self,implies_true,f6])) _ _ (fun h4=>?_) (fun h4=>?_)
     ·rw [if_pos h4] at hrun
      have hle4:=wT (t:=⟨#[44]⟩) hle3
      simp -dsimp only [go_sem,gS,f6]
      refine zP ⟨k,xs++[t],yR l ⟨#[44]⟩ s3,a',R'⟩ _ ⟨rfl,hacc',hrun,h4,hle4,by simp; omega,by simp only; omega⟩ (Nat.lt_succ_self k) (by simp -dsimp only [go_sem,gS]) (yM (by simp only [hpS,eq_self,implies_true,f6,f6']) (by simp only [hpS,eq_self,implies_true,f6,f6']))
     ·rw [if_neg h4] at hrun
      rw [←hrun] at hP
      simp -dsimp only [go_sem,gS]
      refine xO (uU (o:=.var (psA l s3.pos)) hacc'.le (by simp only [hpS,eq_self,implies_true,f6,f60])) (wS (hP h4))
   ·rw [yJ h3] at hrun
    rw [←hrun] at hP
    simp -dsimp only [go_sem,gS]
    exact xO (hdel _) (wS (hP h3))
end Go.Aug

/- The program's parser: terms and types (printed by PyC.py). -/
namespace Go.Aug
open Go.Proofs
set_option maxRecDepth 100000
set_option linter.unusedSimpArgs false
attribute [local irreducible] hid andK letA zR wN xX yH xR xE wR idxA ldV ldD addO xD appTo wF slA srcK nilQ retW gif sgd yT svc sops xQ yX aopO xT yU aBin aUn wK aLen zL yW zI yG xC yF yZ zJ zM yV zX yE xG xU frzM putE newK newV wP ACall xH wD zW sret cnd szs nilC yK zQ yA
attribute [local go_sem] Int.natCast_zero
def capH (p b2 b3 n:Nat):Heap:=hp noH [(b2,.var [.ref p 0]),(b3,.var [.d (.int .i64 n)])]
theorem zOM {eb:EbG} {p b2 b3 n:Nat} {l:List Tok} {q:RdS→Tm×RdS} (hq:One eb noH p l 59 [.ref p 0,.d (.int .i64 (n+1:Nat))] Tm.d q) (hn:n < 1000) (e2:eqn b2 p=false) (e3:eqn b3 p=false) (e23:eqn b3 b2=false) :
  One eb (capH p b2 b3 n) p l 103 [.ref b2 0,.ref b3 0] Tm.d q:=by
 intro H s hB h K KP hK hP
 have h2:=hB b2 _ (show capH p b2 b3 n b2=some (.var [.ref p 0]) by unfold capH; simp only [hpS,eq_self,implies_true,noH])
 have h3:=hB b3 _ (show capH p b2 b3 n b3=some (.var [.d (.int .i64 n)]) by unfold capH; simp only [hpS,eq_self,implies_true,noH,e23])
 have hw:=qT (k:=n) (by omega)
 have hsh:=h.short
 have hle:=h.le
 refine ACallP.hp_in h.at_ ?_
 refine ACallP.by mixed zXi (by simp) ?_
 conv in s103=>cbv
 refine zG ?_
 simp -dsimp only [go_sem,gS]
 refine yI (fun b9 f9=>?_)
 simp only [zN,zU] at f9
 have e24:=qG f9.2.2 b2 (by rw [h2]; rfl)
 have e34:=qG f9.2.2 b3 (by rw [h3]; rfl)
 simp -dsimp only [go_sem,gS,f9,e2,e3,e24,e34,h2,h3,hw]
 refine hq _ s (xV _) (.len hsh hle h.ok (by simp only [hpS,eq_self,implies_true,f9])) _ _ (fun h5=>?_) (fun h5=>?_)
 ·generalize (q s).1=t at hK ⊢
  generalize (q s).2=s3 at hK h5 ⊢
  have hcs:=t.cs_length
  simp -dsimp only [go_sem,gS,hcs,Tm.d,f9]
  refine zB (G:=hp H [(p,.var (psA l s3.pos))]) (yM (by simp only [hpS,eq_self,implies_true,f9]) (by simp only [hpS,eq_self,implies_true,f9])) (zC (hK h5))
 ·simp -dsimp only [go_sem,gS]
  exact vV (o:=.var (psA l s.pos)) (.refl _) (by simp only [hpS,eq_self,implies_true,f9]) (hP h5)
set_option maxHeartbeats 4000000 in
theorem zGr {eb:EbG} [On eb 1] [On eb 0] [On eb 3] (p:Nat) (l:List Tok):∀ (f n:Nat) (_:67≤f+n) (_:n≤66),One eb noH p l 59 [.ref p 0,.d (.int .i64 n)] Tm.d (yS f l n)
 | 0,n,h1,h2=>by omega
 | f+1,n,hf,hn=>by
  intro H s _ h K KP hK hP
  have ih:=fun h=>zGr (eb:=eb) p l f (n+1) (by omega) h
  have hsh:=h.short
  have hle:=h.le
  have he:=h.ok
  refine ACallP.hp_in h.at_ ?_
  refine ACallP.by mixed fn59 (by simp) ?_
  conv in s59=>cbv
  refine zG ?_
  simp -dsimp only [go_sem,gS]
  refine yI (fun b2 f2=>?_)
  simp only [zN,zU] at f2
  simp -dsimp only [go_sem,gS,f2]
  refine yI (fun b3 f3=>?_)
  simp only [zN,zU] at f3
  simp -dsimp only [go_sem,gS,f2,f3]
  refine yI (fun b4 f4=>?_)
  simp only [zN,zU] at f4
  simp -dsimp only [go_sem,gS,f2,f3,f4]
  refine zD4 _ p l s n (.len hsh hle he (by simp only [hpS,eq_self,implies_true,f2,f3,f4])) _ _ (fun h5=>?_) (fun h5=>?_)
  ·rw [zGj he h5] at hK hP
   rw [zCs he h5]
   simp -dsimp only [go_sem,gS,f2,f3,f4]
   refine zCR _ p l s (.len hsh hle he (by simp only [hpS,eq_self,implies_true,f2,f3,f4])) _ ?_
   have e:=qT (k:=s.pos) (by omega)
   generalize jW l s.pos=k at hK hP ⊢
   simp -dsimp only [go_sem,gS,Tok.d,Tok.cs,f2,f3,f4]
   refine yI (fun b5 f5=>?_)
   simp only [zN,zU] at f5
   simp -dsimp only [go_sem,gS,f2,f3,f4,f5]
   refine zD (fun h6=>?_) (fun h6=>?_)
   ·rw [if_pos (of_decide_eq_true h6)] at hK
    simp -dsimp only [go_sem,gS,f2,f3,f4,f5,e]
    refine zZ ?_
    simp -dsimp only [go_sem,gS]
    refine zB (G:=hp H [(p,.var (psA l (s.pos+1)))]) (yM (by simp only [hpS,eq_self,implies_true,f2,f3,f4,f5]) (by simp only [hpS,eq_self,implies_true,f2,f3,f4,f5])) (zC ?_)
    have:=hK rfl
    simp only [Tm.d,Tm.cs,Tm.ds] at this
    exact this
   ·rw [if_neg (of_decide_eq_false h6)] at hK hP
    simp -dsimp only [go_sem,gS,f2,f3,f4,f5,h6]
    refine zD (fun h7=>?_) (fun h7=>?_)
    ·rw [if_pos (of_decide_eq_true h7)] at hK
     simp -dsimp only [go_sem,gS,f2,f3,f4,f5,e]
     refine zZ ?_
     simp -dsimp only [go_sem,gS]
     refine zB (G:=hp H [(p,.var (psA l (s.pos+1)))]) (yM (by simp only [hpS,eq_self,implies_true,f2,f3,f4,f5]) (by simp only [hpS,eq_self,implies_true,f2,f3,f4,f5])) (zC ?_)
     have:=hK rfl
     simp only [Tm.d,Tm.cs,Tm.ds] at this
     exact this
    ·rw [if_neg (of_decide_eq_false h7)] at hK hP
     simp -dsimp only [go_sem,gS,f2,f3,f4,f5,h7]
     refine zBR p l _ s (xV _) (.len hsh hle he (by simp only [hpS,eq_self,implies_true,f2,f3,f4,f5])) _ _ (fun h8=>?_) (fun h8=>?_)
     ·have hle8:=wJ (kind:=1) hle
      have hn64:n≤64:=by
       have h9:=(zBy h8).2.2
       rw [jG he] at h9
       have h9':=of_decide_eq_false h9
       rw [zBv he] at h5
       apply Classical.byContradiction; intro hh
       rw [if_pos ⟨by omega,by omega⟩] at h5
       cases h5
      generalize (zS l 1 s).1=w at hK hP ⊢
      generalize (zS l 1 s).2=s1 at hK hP hle8 h8 ⊢
      simp -dsimp only [go_sem,gS,f2,f3,f4,f5]
      refine zJa (capH p b2 b3 n) _ p l s1 _ _ (yS f l (n+1)) (.len hsh hle8 h8 (by simp only [hpS,eq_self,implies_true,f2,f3,f4,f5])) (vB (xV _) (by simp only [hpS,eq_self,implies_true,f2,f3,f4,f5]) (by simp only [hpS,eq_self,implies_true,noH])) (by unfold capH; simp only [hpS,eq_self,implies_true,noH,f2,f3]) (vR l f (n+1))
       (fun s hs=>kJ (by omega) hs) (by kernel_rfl) (by kernel_rfl) (zOM (ih (by omega)) (by omega) (by simp only [hpS,eq_self,implies_true,f2]) (by simp only [hpS,eq_self,implies_true,f3]) (by simp only [hpS,eq_self,implies_true,f3])) _ _ (fun h9=>?_) (fun h9=>?_)
      ·generalize (yC (yS f l (n+1)) l 10 [] s1).1=xs at hK hP ⊢
       generalize (yC (yS f l (n+1)) l 10 [] s1).2=s2 at hK hP h9 ⊢
       simp -dsimp only [go_sem,gS,f2,f3,f4,f5]
       refine zB (G:=hp H [(p,.var (psA l s2.pos))]) (yM (by simp only [hpS,eq_self,implies_true,f2,f3,f4,f5]) (by simp only [hpS,eq_self,implies_true,f2,f3,f4,f5])) (zC ?_)
       have:=hK h9
       simp only [Tm.d,Tm.cs,Tm.ds_map] at this
       exact this
      ·simp -dsimp only [go_sem,gS]
       exact vV (o:=.var (psA l s1.pos)) (.refl _) (by simp only [hpS,eq_self,implies_true,f2,f3,f4,f5]) (hP h9)
     ·rw [yJ h8] at hP
      simp -dsimp only [go_sem,gS]
      exact vV (o:=.var (psA l s.pos)) (.refl _) (by simp only [hpS,eq_self,implies_true,f2,f3,f4,f5]) (hP h8)
  ·have hst:(yS (f+1) l n s).2.err=(yD l n s).err:=by
    have hr:rend l (yD l n s)=true:=by simp [rend,h5]
    simp only [yS,hr,if_true,jK h5,yJ h5]
   rw [hst] at hP
   simp -dsimp only [go_sem,gS]
   exact vV (o:=.var (psA l s.pos)) (.refl _) (by simp only [hpS,eq_self,implies_true,f2,f3,f4]) (hP h5)
theorem zRe {eb:EbG} {p b2 b3 n:Nat} {l:List Tok} {q:RdS→Ty×RdS} (hq:One eb noH p l 63 [.ref p 0,.d (.int .i64 (n+1:Nat))] Ty.d q) (hn:n < 1000) (e2:eqn b2 p=false) (e3:eqn b3 p=false) (e23:eqn b3 b2=false) :
  One eb (capH p b2 b3 n) p l 107 [.ref b2 0,.ref b3 0] Ty.d q:=by
 intro H s hB h K KP hK hP
 have h2:=hB b2 _ (show capH p b2 b3 n b2=some (.var [.ref p 0]) by unfold capH; simp only [hpS,eq_self,implies_true,noH])
 have h3:=hB b3 _ (show capH p b2 b3 n b3=some (.var [.d (.int .i64 n)]) by unfold capH; simp only [hpS,eq_self,implies_true,noH,e23])
 have hw:=qT (k:=n) (by omega)
 have hsh:=h.short
 have hle:=h.le
 refine ACallP.hp_in h.at_ ?_
 refine ACallP.by mixed zXk (by simp) ?_
 conv in s107=>cbv
 refine zG ?_
 simp -dsimp only [go_sem,gS]
 refine yI (fun b9 f9=>?_)
 simp only [zN,zU] at f9
 have e24:=qG f9.2.2 b2 (by rw [h2]; rfl)
 have e34:=qG f9.2.2 b3 (by rw [h3]; rfl)
 simp -dsimp only [go_sem,gS,f9,e2,e3,e24,e34,h2,h3,hw]
 refine hq _ s (xV _) (.len hsh hle h.ok (by simp only [hpS,eq_self,implies_true,f9])) _ _ (fun h5=>?_) (fun h5=>?_)
 ·generalize (q s).1=t at hK ⊢
  generalize (q s).2=s3 at hK h5 ⊢
  have hcs:=t.cs_length
  simp -dsimp only [go_sem,gS,hcs,Ty.d,f9]
  refine zB (G:=hp H [(p,.var (psA l s3.pos))]) (yM (by simp only [hpS,eq_self,implies_true,f9]) (by simp only [hpS,eq_self,implies_true,f9])) (zC (hK h5))
 ·simp -dsimp only [go_sem,gS]
  exact vV (o:=.var (psA l s.pos)) (.refl _) (by simp only [hpS,eq_self,implies_true,f9]) (hP h5)
set_option maxHeartbeats 4000000 in
theorem zIp {eb:EbG} [On eb 1] [On eb 0] [On eb 3] (p:Nat) (l:List Tok):∀ (f n:Nat) (_:67≤f+n) (_:n≤66),One eb noH p l 63 [.ref p 0,.d (.int .i64 n)] Ty.d (xN f l n)
 | 0,n,h1,h2=>by omega
 | f+1,n,hf,hn=>by
  intro H s _ h K KP hK hP
  have ih:=fun h=>zIp (eb:=eb) p l f (n+1) (by omega) h
  have hsh:=h.short
  have hle:=h.le
  have he:=h.ok
  refine ACallP.hp_in h.at_ ?_
  refine ACallP.by mixed fn63 (by simp) ?_
  conv in s63=>cbv
  refine zG ?_
  simp -dsimp only [go_sem,gS]
  refine yI (fun b2 f2=>?_)
  simp only [zN,zU] at f2
  simp -dsimp only [go_sem,gS,f2]
  refine yI (fun b3 f3=>?_)
  simp only [zN,zU] at f3
  simp -dsimp only [go_sem,gS,f2,f3]
  refine yI (fun b4 f4=>?_)
  simp only [zN,zU] at f4
  simp -dsimp only [go_sem,gS,f2,f3,f4]
  refine zD4 _ p l s n (.len hsh hle he (by simp only [hpS,eq_self,implies_true,f2,f3,f4])) _ _ (fun h5=>?_) (fun h5=>?_)
  ·rw [zGl he h5] at hK hP
   rw [zCs he h5]
   simp -dsimp only [go_sem,gS,f2,f3,f4]
   refine zCR _ p l s (.len hsh hle he (by simp only [hpS,eq_self,implies_true,f2,f3,f4])) _ ?_
   have e:=qT (k:=s.pos) (by omega)
   have hnx:=fun G h K hK=>zQc (eb:=eb) G p l s h K hK
   generalize jW l s.pos=k at hK hP hnx ⊢
   simp -dsimp only [go_sem,gS,Tok.d,Tok.cs,f2,f3,f4]
   refine zD (fun h6=>?_) (fun h6=>?_)
   ·rw [if_pos (of_decide_eq_true h6)] at hK
    simp -dsimp only [go_sem,gS,f2,f3,f4]
    refine hnx _ (.len hsh hle he (by simp only [hpS,eq_self,implies_true,f2,f3,f4])) _ ?_
    simp -dsimp only [go_sem,gS,Tok.d,Tok.cs,f2,f3,f4]
    refine zZ ?_
    simp -dsimp only [go_sem,gS]
    refine zB (G:=hp H [(p,.var (psA l (s.pos+1)))]) (yM (by simp only [hpS,eq_self,implies_true,f2,f3,f4]) (by simp only [hpS,eq_self,implies_true,f2,f3,f4])) (zC ?_)
    have:=hK rfl
    simp only [Ty.d,Ty.cs,Ty.ds] at this
    exact this
   ·rw [if_neg (of_decide_eq_false h6)] at hK hP
    simp -dsimp only [go_sem,gS,f2,f3,f4,h6]
    refine xL _ p l s _ (.len hsh hle he (by simp only [hpS,eq_self,implies_true,f2,f3,f4])) _ ?_
    cases h7:(rgot l kInt s).1 with
    | true =>
     have h7':(rgot l ⟨#[105,110,116]⟩ s).1=true:=h7
     rw [h7,if_pos rfl] at hK
     have her:(rgot l kInt s).2.err=0:=by rw [wE]; exact he
     rw [h7']
     simp -dsimp only [go_sem,gS,f2,f3,f4]
     refine zZ ?_
     simp -dsimp only [go_sem,gS]
     refine zB (G:=hp H [(p,.var (psA l (rgot l kInt s).2.pos))]) (yM (by simp only [hpS,eq_self,implies_true,f2,f3,f4,kInt]) (by simp only [hpS,eq_self,implies_true,f2,f3,f4,kInt])) (zC ?_)
     have:=hK her
     simp only [Ty.d,Ty.cs,Ty.ds] at this
     exact this
    | false =>
     have h7':(rgot l ⟨#[105,110,116]⟩ s).1=false:=h7
     rw [h7,if_neg Bool.false_ne_true] at hK hP
     rw [zT h7',h7']
     simp -dsimp only [go_sem,gS,f2,f3,f4]
     refine zBR p l _ s (xV _) (.len hsh hle he (by simp only [hpS,eq_self,implies_true,f2,f3,f4])) _ _ (fun h8=>?_) (fun h8=>?_)
     ·have hle8:=wJ (kind:=1) hle
      have hn64:n≤64:=by
       have h9:=(zBy h8).2.2
       rw [jG he] at h9
       have h9':=of_decide_eq_false h9
       rw [zBv he] at h5
       apply Classical.byContradiction; intro hh
       rw [if_pos ⟨by omega,by omega⟩] at h5
       cases h5
      generalize (zS l 1 s).1=w at hK hP ⊢
      generalize (zS l 1 s).2=s1 at hK hP hle8 h8 ⊢
      simp -dsimp only [go_sem,gS,f2,f3,f4]
      refine zGi (capH p b2 b3 n) _ p l s1 _ _ (xN f l (n+1)) (.len hsh hle8 h8 (by simp only [hpS,eq_self,implies_true,f2,f3,f4])) (vB (xV _) (by simp only [hpS,eq_self,implies_true,f2,f3,f4]) (by simp only [hpS,eq_self,implies_true,noH])) (by unfold capH; simp only [hpS,eq_self,implies_true,noH,f2,f3]) (uM l f (n+1))
       (fun s hs=>qL (by omega) hs) (by kernel_rfl) (by kernel_rfl) (zRe (ih (by omega)) (by omega) (by simp only [hpS,eq_self,implies_true,f2]) (by simp only [hpS,eq_self,implies_true,f3]) (by simp only [hpS,eq_self,implies_true,f3])) _ _ (fun h9=>?_) (fun h9=>?_)
      ·generalize (yC (xN f l (n+1)) l 10 [] s1).1=xs at hK hP ⊢
       generalize (yC (xN f l (n+1)) l 10 [] s1).2=s2 at hK hP h9 ⊢
       simp -dsimp only [go_sem,gS,f2,f3,f4]
       refine zB (G:=hp H [(p,.var (psA l s2.pos))]) (yM (by simp only [hpS,eq_self,implies_true,f2,f3,f4]) (by simp only [hpS,eq_self,implies_true,f2,f3,f4])) (zC ?_)
       have:=hK h9
       simp only [Ty.d,Ty.cs,Ty.ds_map] at this
       exact this
      ·simp -dsimp only [go_sem,gS]
       exact vV (o:=.var (psA l s1.pos)) (.refl _) (by simp only [hpS,eq_self,implies_true,f2,f3,f4]) (hP h9)
     ·rw [yJ h8] at hP
      simp -dsimp only [go_sem,gS]
      exact vV (o:=.var (psA l s.pos)) (.refl _) (by simp only [hpS,eq_self,implies_true,f2,f3,f4]) (hP h8)
  ·have hst:(xN (f+1) l n s).2.err=(yD l n s).err:=by
    have hr:rend l (yD l n s)=true:=by simp [rend,h5]
    simp [xN,zAr,hr,wZ h5,jK h5,yJ h5]
   rw [hst] at hP
   simp -dsimp only [go_sem,gS]
   exact vV (o:=.var (psA l s.pos)) (.refl _) (by simp only [hpS,eq_self,implies_true,f2,f3,f4]) (hP h5)

theorem zPX {R:Heap} {b:Nat} {o:AObj} {l l':List (Nat×AObj)} (h:inK b l=false) (hl:setL b o l=l'):LeH (hp (upd R b o) l) (hp R l'):=by rw [zHP h,hl]; exact .refl _
def glZ:List A:=[.d (.int .i64 0),.d (.int .i64 0),.d (.str ⟨#[]⟩),.d (.int .i64 0),.nils,.d (.int .i64 0),.d (.str ⟨#[]⟩),.d (.int .i64 0),.nils,.d (.str ⟨#[]⟩),.nils,.nils]
set_option maxHeartbeats 4000000 in
theorem zA9 {eb:EbG} (B:Heap) (p:Nat) (l:List Tok) (g:FuncId) (caps:List A) (q:RdS→Gl×RdS) (kind:Int) (m:ByteArray) (hBp:B p=none) (hq:vI l q)
  (hcl:zH Tryz.prog g=true) (hpan:(zK eb).pan g=true) (hone:One eb B p l g caps Gl.d q) :
  One eb B p l 95 [.ref p 0,.d (.int .i64 kind),.d (.str m),.func g caps] Gl.d (wC kind m q l):=by
 intro H s hB h K KP hK hP
 have hsh:=h.short
 have hle:=h.le
 have he:=h.ok
 refine ACallP.hp_in h.at_ ?_
 refine ACallP.by mixed fn95 (by simp) ?_
 conv in s95=>cbv
 refine zG ?_
 simp -dsimp only [go_sem,gS]
 refine yI (fun b8 f8=>?_)
 simp only [zN,zU] at f8
 simp -dsimp only [go_sem,gS,f8,hcl,hpan]
 have hBG:∀ R n,LeH H R→LeH B (hp R [(p,.var (psA l n)),(b8,.var glZ)]):=fun R n hR=>zAt (hB.trans hR) (by simp only [hpS,eq_self,implies_true,hBp,hB.free f8.2.2])
 refine hone _ s (hBG H s.pos (.refl _)) (.len hsh hle he (by simp only [hpS,eq_self,implies_true,f8])) _ _ (fun h1=>?_) (fun h1=>?_)
 ·unfold wC at hK hP
  have hle1:=hq.le s hle
  have hge1:=hq.ge s
  have hcs:=(q s).1.cs_length
  generalize (q s).1=t at hK hP hcs ⊢
  generalize (q s).2=s1 at hK hP h1 hle1 hge1 ⊢
  generalize hres:jV q m l l.length [t] s1=res at hK hP
  simp -dsimp only [go_sem,gS,hcs,Gl.d,f8]
  refine vD (fun b9 v9 f9 w9=>?_)
  simp only [zN,zU] at f9
  simp -dsimp only [go_sem,gS,f8,f9]
  refine yP (X:=PRow Gl) (fun x=>[(0,.ref p 0),(1,.d (.int .i64 kind)),(2,.d (.str m)),(3,.func g caps),(8,.ref b8 0),(9,x.a)])
   (fun x G=>G=hp x.R [(p,.var (psA l x.s.pos)),(b8,.var glZ)]∧Acc H [p,b8] 42 12 (x.xs.map Gl.d) x.a x.R∧jV q m l x.k x.xs x.s=res∧x.s.err=0∧x.s.pos≤l.length∧l.length≤x.k+x.s.pos∧x.xs≠[]∧x.xs.length≤x.s.pos+1)
   (fun x=>x.k) ⟨l.length,[t],s1,.own b9 v9,upd H b9 (.arr 42 12 v9 [Gl.d t])⟩ _ ⟨rfl,Acc.new (by simp only [hpS,eq_self,implies_true,f9]) f9.2.2.2.2 w9,hres,h1,hle1,by simp,by simp,by simp⟩ (by simp -dsimp only [go_sem,gS]) (zPX (by simp only [hpS,eq_self,implies_true,f9]) (by simp only [hpS,eq_self,implies_true,f9,Gl.d,glZ])) ?_
  rintro ⟨k,xs,s2,a,R⟩ G ⟨rfl,hacc,hrun,he2,hle2,hk,hne,hsz⟩
  simp only at hacc hrun he2 hle2 hk hne hsz
  have hok:okK [p,b8] R [(p,.var (psA l s2.pos)),(b8,.var glZ)]:=by simp only [hpS,eq_self,implies_true,hsh,f8]
  have hdel:∀ n,LeH (del H p) (del (hp R [(p,.var (psA l n)),(b8,.var glZ)]) p):=fun n=>uU (o:=.var (psA l n)) hacc.le (by simp only [hpS,eq_self,implies_true,f8])
  have hone1:=hacc.one
  simp -dsimp only [go_sem,gS,f8]
  refine xL _ p l s2 m (.len hsh hle2 he2 (by simp only [hpS,eq_self,implies_true,f8])) _ ?_
  cases hg:(rgot l m s2).1 with
  | true =>
   obtain ⟨_,hp3,hlt3⟩:=wA hg
   obtain ⟨k,rfl⟩:∃ j,k=j+1:=⟨k - 1,by omega⟩
   have hle3:=yQ (t:=m) hle2
   have he3:(rgot l m s2).2.err=0:=by rw [wE]; exact he2
   rw [jV,if_pos hg] at hrun
   generalize (rgot l m s2).2=s3 at hrun hp3 hle3 he3 ⊢
   simp -dsimp only [go_sem,gS,f8,hcl,hpan]
   refine hone _ s3 (hBG R s3.pos hacc.le) (.len hsh hle3 he3 (by simp only [hpS,eq_self,implies_true,f8])) _ _ (fun h4=>?_) (fun h4=>?_)
   ·have hle4:=hq.le s3 hle3
    have hge4:=hq.ge s3
    have hcs:=(q s3).1.cs_length
    generalize (q s3).1=u at hrun hcs ⊢
    generalize (q s3).2=s4 at hrun h4 hle4 hge4 ⊢
    simp -dsimp only [go_sem,gS,hcs,Gl.d,f8]
    refine vD (fun b6 v6 f6 w6=>?_)
    simp only [zN,zU] at f6
    simp -dsimp only [go_sem,gS,f8,f6,hcs,Gl.d]
    refine hacc.appTo (by simp only [hpS,eq_self,implies_true,f8,f6]) (by simp only [hpS,eq_self,implies_true,f8]) (by simp only [List.length_map,List.length_cons,List.length_nil]; omega) (fun a' R' hacc' hn=>?_)
    have hone':=hacc'.one
    have f6':=hn b6 (by simp only [hpS,eq_self,implies_true,f8,f6]) f6.2.2.2.2
    rw [show xs.map Gl.d++[D.agg u.cs]=(xs++[u]).map Gl.d by simp [Gl.d]] at hacc'
    simp -dsimp only [go_sem,gS,f8,f6,hone']
    refine zP ⟨k,xs++[u],s4,a',R'⟩ _ ⟨rfl,hacc',hrun,h4,hle4,by simp only; omega,by simp,by simp; omega⟩ (Nat.lt_succ_self k) (by simp -dsimp only [go_sem,gS]) (yM (by simp only [hpS,eq_self,implies_true,f8,f6,f6',glZ]) (by simp only [hpS,eq_self,implies_true,f8,f6,f6',glZ]))
   ·rw [zCq h4] at hrun
    rw [←hrun] at hP
    simp -dsimp only [go_sem,gS]
    exact xO (hdel _) (wS (hP h4))
  | false =>
   have hrun':(xs,s2)=res:=by
    rw [←hrun]
    cases k with
    | zero=>rfl
    | succ k=>rw [jV,if_neg (by simp [hg])]
   rw [←hrun'] at hK
   rw [zT hg]
   obtain ⟨b,v,rfl,hmem,hb0,hv,hRb⟩:∃ b v,a=.own b v∧memK b [p,b8]=false∧H b=none∧v.ownBlock=some b∧R b=some (.arr 42 12 v (xs.map Gl.d)):=by
    rcases hacc.2 with ⟨h0,_⟩ | h0
    ·exact absurd (List.map_eq_nil_iff.1 h0) hne
    ·exact h0
   have e1:eqn b p=false∧eqn b b8=false:=by
    rw [zCi,zCi,zF7] at hmem
    cases h1:eqn b p with
    | true=>rw [h1,zDx] at hmem; cases hmem
    | false =>
     cases h2:eqn b b8 with
     | true=>rw [h1,h2,zB9,zDx] at hmem; cases hmem
     | false=>exact ⟨rfl,rfl⟩
   have e2:eqn p b=false∧eqn b8 b=false:=⟨zA5 (Ne.symm (zD6 e1.1)),zA5 (Ne.symm (zD6 e1.2))⟩
   have hR0:R p=none∨True:=.inr trivial
   simp -dsimp only [go_sem,gS,f8,e1,hRb]
   refine zD (fun h5=>?_) (fun h5=>?_)
   ·have h5':xs.length=1:=by have:=of_decide_eq_true h5; omega
    obtain ⟨u,rfl⟩:∃ u,xs=[u]:=List.length_eq_one_iff.1 h5'
    have hcs:=u.cs_length
    have htk:u.cs.take 12=u.cs:=List.take_of_length_le (by rw [hcs]; exact Nat.le_refl _)
    have ht0:Int.toNat 0=0:=rfl
    simp only [List.map_cons,List.map_nil] at hRb
    simp -dsimp only [go_sem,gS,f8,e1,hRb,Gl.d,hcs,List.drop_zero,htk,ht0,List.length_cons,List.length_nil,List.getElem?_cons_zero,glZ]
    refine zB (G:=hp H [(p,.var (psA l s2.pos))]) (vB hacc.le (by simp only [hpS,eq_self,implies_true,f8]) (by simp only [hpS,eq_self,implies_true,f8])) (zC ?_)
    have h9:K (.d u.d) (pset H p l s2):=by have:=hK he2; simpa [kR] using this
    exact h9
   ·have h5':¬ xs.length=1:=by have:=of_decide_eq_false h5; omega
    simp -dsimp only [go_sem,gS,f8,e1,hRb,glZ]
    refine zZ ?_
    simp -dsimp only [go_sem,gS,f8,e1,e2,hRb]
    refine zB (G:=hp H [(p,.var (psA l s2.pos))]) (vB hacc.le (by simp only [hpS,eq_self,implies_true,f8,e1,e2]) (by simp only [hpS,eq_self,implies_true,f8,e1,e2,hb0])) (zC ?_)
    have:=hK he2
    simp only [kR,if_neg h5',Gl.d,Gl.cs,Tm.none,Tm.cs,Tm.ds,Gl.ds_map] at this
    exact this
 ·have e:(wC kind m q l s).2=(q s).2:=by rw [wC,zCq h1]
  rw [e] at hP
  simp -dsimp only [go_sem,gS]
  exact vV (o:=.var (psA l s.pos)) (.refl _) (by simp only [hpS,eq_self,implies_true,f8]) (hP h1)
theorem zKI {eb:EbG} {p b2 b3 n:Nat} {l:List Tok} {q:RdS→Gl×RdS} (hq:One eb noH p l 98 [.ref p 0,.d (.int .i64 (n:Nat))] Gl.d q) (e2:eqn b2 p=false) (e3:eqn b3 p=false) (e23:eqn b3 b2=false) :
  One eb (capH p b2 b3 n) p l 97 [.ref b2 0,.ref b3 0] Gl.d q:=by
 intro H s hB h K KP hK hP
 have h2:=hB b2 _ (show capH p b2 b3 n b2=some (.var [.ref p 0]) by unfold capH; simp only [hpS,eq_self,implies_true,noH])
 have h3:=hB b3 _ (show capH p b2 b3 n b3=some (.var [.d (.int .i64 n)]) by unfold capH; simp only [hpS,eq_self,implies_true,noH,e23])
 have hsh:=h.short
 have hle:=h.le
 refine ACallP.hp_in h.at_ ?_
 refine ACallP.by mixed fn97 (by simp) ?_
 conv in s97=>cbv
 refine zG ?_
 simp -dsimp only [go_sem,gS]
 refine yI (fun b9 f9=>?_)
 simp only [zN,zU] at f9
 have e24:=qG f9.2.2 b2 (by rw [h2]; rfl)
 have e34:=qG f9.2.2 b3 (by rw [h3]; rfl)
 simp -dsimp only [go_sem,gS,f9,e2,e3,e24,e34,h2,h3]
 refine hq _ s (xV _) (.len hsh hle h.ok (by simp only [hpS,eq_self,implies_true,f9])) _ _ (fun h5=>?_) (fun h5=>?_)
 ·generalize (q s).1=t at hK ⊢
  generalize (q s).2=s3 at hK h5 ⊢
  have hcs:=t.cs_length
  simp -dsimp only [go_sem,gS,hcs,Gl.d,f9]
  refine zB (G:=hp H [(p,.var (psA l s3.pos))]) (yM (by simp only [hpS,eq_self,implies_true,f9]) (by simp only [hpS,eq_self,implies_true,f9])) (zC (hK h5))
 ·simp -dsimp only [go_sem,gS]
  exact vV (o:=.var (psA l s.pos)) (.refl _) (by simp only [hpS,eq_self,implies_true,f9]) (hP h5)
theorem zM3 {eb:EbG} {p b2 b3 n:Nat} {l:List Tok} {q:RdS→Gl×RdS} (hq:vI l q) (hone:One eb (capH p b2 b3 n) p l 97 [.ref b2 0,.ref b3 0] Gl.d q) (e2:eqn b2 p=false) (e3:eqn b3 p=false) (e23:eqn b3 b2=false) (e4:eqn p b2=false) (e5:eqn p b3=false) :
  One eb (capH p b2 b3 n) p l 96 [.ref b2 0,.ref b3 0] Gl.d (wC 5 wM q l):=by
 intro H s hB h K KP hK hP
 have hBp:capH p b2 b3 n p=none:=by unfold capH; simp only [hpS,eq_self,implies_true,noH,e4,e5]
 have h2:=hB b2 _ (show capH p b2 b3 n b2=some (.var [.ref p 0]) by unfold capH; simp only [hpS,eq_self,implies_true,noH])
 have h3:=hB b3 _ (show capH p b2 b3 n b3=some (.var [.d (.int .i64 n)]) by unfold capH; simp only [hpS,eq_self,implies_true,noH,e23])
 have hsh:=h.short
 have hle:=h.le
 refine ACallP.hp_in h.at_ ?_
 refine ACallP.by mixed fn96 (by simp) ?_
 conv in s96=>cbv
 refine zG ?_
 simp -dsimp only [go_sem,gS]
 refine yI (fun b9 f9=>?_)
 simp only [zN,zU] at f9
 have e24:=qG f9.2.2 b2 (by rw [h2]; rfl)
 have e34:=qG f9.2.2 b3 (by rw [h3]; rfl)
 simp -dsimp only [go_sem,gS,f9,e2,e3,e24,e34,h2,h3]
 have hB9:capH p b2 b3 n b9=none:=hB.free f9.2.2
 refine zA9 (capH p b2 b3 n) p l _ _ q 5 wM hBp hq (by kernel_rfl) (by kernel_rfl) hone _ s (zAt hB (by simp only [hpS,eq_self,implies_true,hBp,hB9])) (.len hsh hle h.ok (by simp only [hpS,eq_self,implies_true,f9])) _ _ (fun h5=>?_) (fun h5=>?_)
 ·generalize (wC 5 wM q l s).1=t at hK ⊢
  generalize (wC 5 wM q l s).2=s3 at hK h5 ⊢
  have hcs:=t.cs_length
  simp -dsimp only [go_sem,gS,hcs,Gl.d,f9]
  refine zB (G:=hp H [(p,.var (psA l s3.pos))]) (yM (by simp only [hpS,eq_self,implies_true,f9]) (by simp only [hpS,eq_self,implies_true,f9])) (zC (hK h5))
 ·simp -dsimp only [go_sem,gS]
  exact vV (o:=.var (psA l s.pos)) (.refl _) (by simp only [hpS,eq_self,implies_true,f9]) (hP h5)
theorem zIK {eb:EbG} {p n:Nat} {l:List Tok} {q:RdS→Gl×RdS} (hq:vI l q) (hone:One eb noH p l 98 [.ref p 0,.d (.int .i64 n)] Gl.d q):One eb noH p l 53 [.ref p 0,.d (.int .i64 n)] Gl.d (uQ q l):=by
 intro H s _ h K KP hK hP
 rw [zCU hq h.ok] at hK hP
 have hsh:=h.short
 have hle:=h.le
 refine ACallP.hp_in h.at_ ?_
 refine ACallP.by mixed fn53 (by simp) ?_
 conv in s53=>cbv
 refine zG ?_
 simp -dsimp only [go_sem,gS]
 refine yI (fun b2 f2=>?_)
 simp only [zN,zU] at f2
 simp -dsimp only [go_sem,gS,f2]
 refine yI (fun b3 f3=>?_)
 simp only [zN,zU] at f3
 simp -dsimp only [go_sem,gS,f2,f3]
 refine yI (fun b4 f4=>?_)
 simp only [zN,zU] at f4
 simp -dsimp only [go_sem,gS,f2,f3,f4]
 have hBp:capH p b2 b3 n p=none:=by unfold capH; simp only [hpS,eq_self,implies_true,noH,f2,f3]
 refine zA9 (capH p b2 b3 n) p l _ _ (wC 5 wM q l) 6 zAl hBp (zCr hq) (by kernel_rfl) (by kernel_rfl) (zM3 hq (zKI hone (by simp only [hpS,eq_self,implies_true,f2]) (by simp only [hpS,eq_self,implies_true,f3]) (by simp only [hpS,eq_self,implies_true,f3])) (by simp only [hpS,eq_self,implies_true,f2]) (by simp only [hpS,eq_self,implies_true,f3]) (by simp only [hpS,eq_self,implies_true,f3]) (by simp only [hpS,eq_self,implies_true,f2]) (by simp only [hpS,eq_self,implies_true,f3])) _ s
  (vB (xV _) (by simp only [hpS,eq_self,implies_true,f2,f3,f4]) (by simp only [hpS,eq_self,implies_true,noH])) (.len hsh hle h.ok (by simp only [hpS,eq_self,implies_true,f2,f3,f4])) _ _ (fun h5=>?_) (fun h5=>?_)
 ·generalize (wC 6 zAl (wC 5 wM q l) l s).1=t at hK ⊢
  generalize (wC 6 zAl (wC 5 wM q l) l s).2=s3 at hK h5 ⊢
  have hcs:=t.cs_length
  simp -dsimp only [go_sem,gS,hcs,Gl.d,f2,f3,f4]
  refine zB (G:=hp H [(p,.var (psA l s3.pos))]) (yM (by simp only [hpS,eq_self,implies_true,f2,f3,f4]) (by simp only [hpS,eq_self,implies_true,f2,f3,f4])) (zC (hK h5))
 ·simp -dsimp only [go_sem,gS]
  exact vV (o:=.var (psA l s.pos)) (.refl _) (by simp only [hpS,eq_self,implies_true,f2,f3,f4]) (hP h5)
end Go.Aug

/- The program's parser: a prim. -/
namespace Go.Aug
open Go.Proofs
set_option maxRecDepth 100000
set_option linter.unusedSimpArgs false
attribute [local irreducible] hid andK letA zR wN xX yH xR xE wR idxA ldV ldD addO xD appTo wF slA srcK nilQ retW gif sgd yT svc sops xQ yX aopO xT yU aBin aUn wK aLen zL yW zI yG xC yF yZ zJ zM yV zX yE xG xU frzM putE newK newV wP ACall xH wD zW sret cnd szs nilC yK zQ yA
attribute [local go_sem] Int.natCast_zero
set_option maxHeartbeats 8000000 in
theorem zI2 {eb:EbG} [On eb 1] [On eb 0] [On eb 3] (p:Nat) (l:List Tok):∀ (f n:Nat) (_:67≤f+n) (_:n≤65),One eb noH p l 98 [.ref p 0,.d (.int .i64 n)] Gl.d (xP f l n)
 | 0,n,h1,h2=>by omega
 | f+1,n,hf,hn=>by
  intro H s _ h K KP hK hP
  have ih:=fun h=>zI2 (eb:=eb) p l f (n+1) (by omega) h
  have hterm:=zGr (eb:=eb) p l f (n+1) (by omega) (by omega)
  have hsh:=h.short
  have hle:=h.le
  have he:=h.ok
  have hw:=qT (k:=n) (by omega)
  have hst:=zDk l f (n+1)
  have hsp:=vG l f (n+1)
  refine ACallP.hp_in h.at_ ?_
  refine ACallP.by mixed fn98 (by simp) ?_
  conv in s98=>cbv
  refine zG ?_
  simp -dsimp only [go_sem,gS]
  refine yI (fun b4 f4=>?_)
  simp only [zN,zU] at f4
  simp -dsimp only [go_sem,gS,f4]
  refine zD4 _ p l s n (.len hsh hle he (by simp only [hpS,eq_self,implies_true,f4])) _ _ (fun h5=>?_) (fun h5=>?_)
  rotate_left
  ·rw [zFE h5] at hP
   simp -dsimp only [go_sem,gS]
   exact vV (o:=.var (psA l s.pos)) (.refl _) (by simp only [hpS,eq_self,implies_true,f4]) (hP h5)
  have h64:=zOC he h5
  have hn5:=zCs he h5
  simp only [xP,hn5] at hK hP
  rw [hn5]
  simp -dsimp only [go_sem,gS,f4]
  refine xL _ p l s _ (.len hsh hle he (by simp only [hpS,eq_self,implies_true,f4])) _ ?_
  have tk:∀ m,(rgot l m s).1=true→(rgot l m s).2.err=0∧n≤64∧(rgot l m s).2.pos≤l.length:=fun m hg=>⟨by rw [wE]; exact he,h64 (wA hg).2.2,yQ hle⟩
  cases hg:(rgot l ⟨#[116,114,117,101]⟩ s).1 with
  | true =>
   obtain ⟨t1,t2,t3⟩:=tk _ hg
   rw [if_pos (show (rgot l kX s).1=true from hg)] at hK
   simp -dsimp only [go_sem,gS,f4]
   refine zZ ?_
   simp -dsimp only [go_sem,gS]
   refine zB (G:=hp H [(p,.var (psA l (rgot l kX s).2.pos))]) (yM (by simp only [hpS,eq_self,implies_true,f4,kX]) (by simp only [hpS,eq_self,implies_true,f4,kX])) (zC ?_)
   have:=hK t1
   simp only [Gl.d,Gl.cs,Tm.none,Tm.cs,Tm.ds,Gl.ds] at this
   exact this
  | false =>
  rw [if_neg (c:=(rgot l kX s).1=true) (by rw [show (rgot l kX s).1=false from hg]; exact Bool.false_ne_true)] at hK hP
  rw [zT hg]
  simp -dsimp only [go_sem,gS,f4]
  refine xL _ p l s _ (.len hsh hle he (by simp only [hpS,eq_self,implies_true,f4])) _ ?_
  cases hg:(rgot l ⟨#[102,97,105,108]⟩ s).1 with
  | true =>
   obtain ⟨t1,t2,t3⟩:=tk _ hg
   rw [if_pos (show (rgot l kU s).1=true from hg)] at hK
   simp -dsimp only [go_sem,gS,f4]
   refine zZ ?_
   simp -dsimp only [go_sem,gS]
   refine zB (G:=hp H [(p,.var (psA l (rgot l kU s).2.pos))]) (yM (by simp only [hpS,eq_self,implies_true,f4,kU]) (by simp only [hpS,eq_self,implies_true,f4,kU])) (zC ?_)
   have:=hK t1
   simp only [Gl.d,Gl.cs,Tm.none,Tm.cs,Tm.ds,Gl.ds] at this
   exact this
  | false =>
  rw [if_neg (c:=(rgot l kU s).1=true) (by rw [show (rgot l kU s).1=false from hg]; exact Bool.false_ne_true)] at hK hP
  rw [zT hg]
  simp -dsimp only [go_sem,gS,f4]
  refine xL _ p l s _ (.len hsh hle he (by simp only [hpS,eq_self,implies_true,f4])) _ ?_
  cases hg:(rgot l ⟨#[110,111,116]⟩ s).1 with
  | true =>
   obtain ⟨t1,t2,t3⟩:=tk _ hg
   rw [if_pos (show (rgot l kNot s).1=true from hg)] at hK hP
   have e:rgot l ⟨#[110,111,116]⟩ s=rgot l kNot s:=rfl
   rw [e]
   rw [e] at t1 t3
   generalize (rgot l kNot s).2=s1 at hK hP t1 t3 ⊢
   simp -dsimp only [go_sem,gS,f4,hw]
   refine ih (by omega) _ s1 (xV _) (.len hsh t3 t1 (by simp only [hpS,eq_self,implies_true,f4])) _ _ (fun h6=>?_) (fun h6=>?_)
   ·have hcs:=(xP f l (n+1) s1).1.cs_length
    generalize (xP f l (n+1) s1).1=t at hK hP hcs ⊢
    generalize (xP f l (n+1) s1).2=s2 at hK hP h6 ⊢
    simp -dsimp only [go_sem,gS,f4,hcs,Gl.d]
    refine vD (fun b6 v6 f6 w6=>?_)
    simp only [zN,zU] at f6
    simp -dsimp only [go_sem,gS,f4,f6]
    refine zZ ?_
    simp -dsimp only [go_sem,gS,f4,f6]
    refine zB (G:=hp H [(p,.var (psA l s2.pos))]) (yM (by simp only [hpS,eq_self,implies_true,f4,f6]) (by simp only [hpS,eq_self,implies_true,f4,f6])) (zC ?_)
    have:=hK h6
    simp only [Gl.d,Gl.cs,Tm.none,Tm.cs,Tm.ds,Gl.ds] at this
    exact this
   ·simp -dsimp only [go_sem,gS]
    exact vV (o:=.var (psA l s1.pos)) (.refl _) (by simp only [hpS,eq_self,implies_true,f4]) (hP h6)
  | false =>
  rw [if_neg (c:=(rgot l kNot s).1=true) (by rw [show (rgot l kNot s).1=false from hg]; exact Bool.false_ne_true)] at hK hP
  rw [zT hg]
  simp -dsimp only [go_sem,gS,f4]
  refine xL _ p l s _ (.len hsh hle he (by simp only [hpS,eq_self,implies_true,f4])) _ ?_
  cases hg:(rgot l ⟨#[116,104,114,111,119]⟩ s).1 with
  | true =>
   obtain ⟨t1,t2,t3⟩:=tk _ hg
   rw [if_pos (show (rgot l vT s).1=true from hg)] at hK hP
   have e:rgot l ⟨#[116,104,114,111,119]⟩ s=rgot l vT s:=rfl
   rw [e]
   rw [e] at t1 t3
   generalize (rgot l vT s).2=s1 at hK hP t1 t3 ⊢
   simp -dsimp only [go_sem,gS,f4,hw]
   refine hterm _ s1 (xV _) (.len hsh t3 t1 (by simp only [hpS,eq_self,implies_true,f4])) _ _ (fun h6=>?_) (fun h6=>?_)
   ·have hcs:=(yS f l (n+1) s1).1.cs_length
    generalize (yS f l (n+1) s1).1=t at hK hP hcs ⊢
    generalize (yS f l (n+1) s1).2=s2 at hK hP h6 ⊢
    obtain ⟨k1,k2,k3,k4⟩:=t
    simp -dsimp only [go_sem,gS,f4,Tm.d,Tm.cs]
    refine zZ ?_
    simp -dsimp only [go_sem,gS,f4]
    refine zB (G:=hp H [(p,.var (psA l s2.pos))]) (yM (by simp only [hpS,eq_self,implies_true,f4]) (by simp only [hpS,eq_self,implies_true,f4])) (zC ?_)
    have:=hK h6
    simp only [Gl.d,Gl.cs,Tm.none,Tm.cs,Tm.ds,Gl.ds] at this
    exact this
   ·simp -dsimp only [go_sem,gS]
    exact vV (o:=.var (psA l s1.pos)) (.refl _) (by simp only [hpS,eq_self,implies_true,f4]) (hP h6)
  | false =>
  rw [if_neg (c:=(rgot l vT s).1=true) (by rw [show (rgot l vT s).1=false from hg]; exact Bool.false_ne_true)] at hK hP
  rw [zT hg]
  simp -dsimp only [go_sem,gS,f4]
  refine xL _ p l s _ (.len hsh hle he (by simp only [hpS,eq_self,implies_true,f4])) _ ?_
  cases hg:(rgot l ⟨#[116,114,121]⟩ s).1 with
  | true =>
   obtain ⟨t1,t2,t3⟩:=tk _ hg
   rw [if_pos (show (rgot l kTry s).1=true from hg)] at hK hP
   have e:rgot l ⟨#[116,114,121]⟩ s=rgot l kTry s:=rfl
   rw [e]
   rw [e] at t1 t3
   generalize (rgot l kTry s).2=s1 at hK hP t1 t3 ⊢
   have ih':=ih (by omega)
   generalize xP f l (n+1)=q at hK hP hst hsp ih'
   have is:=zLH (l:=l) (s:=s1) hst
   rw [is.1] at hK
   have i1:=zQX (l:=l) (s:=s1) hst
   have i2:=zQY (l:=l) (s:=s1) hst
   have i3:=zQZ (l:=l) (s:=s1) hst
   have i4:=zQ0 (l:=l) (s:=s1) hst
   have l1:=hsp.le s1 t3
   simp -dsimp only [go_sem,gS,f4,hw]
   refine ih' _ s1 (xV _) (.len hsh t3 t1 (by simp only [hpS,eq_self,implies_true,f4])) _ _ (fun h6=>?_) (fun h6=>?_)
   ·have hcs:=(q s1).1.cs_length
    generalize (q s1).1=t at hK hcs is ⊢
    generalize (q s1).2=s2 at hK h6 is i2 i3 i4 l1 ⊢
    simp -dsimp only [go_sem,gS,f4,hcs,Gl.d]
    refine yI (fun b5 f5=>?_)
    simp only [zN,zU] at f5
    simp -dsimp only [go_sem,gS,f4,f5,hcs]
    have e2:yR l ⟨#[99,97,116,99,104]⟩ s2=yR l vS s2:=rfl
    refine zAm _ p l s2 _ (.len hsh l1 h6 (by simp only [hpS,eq_self,implies_true,f4,f5])) _ _ (fun h7=>?_) (fun h7=>?_)
    rotate_left
    ·rw [i2 h7] at hP
     simp -dsimp only [go_sem,gS]
     exact vV (o:=.var (psA l s2.pos)) (.refl _) (by simp only [hpS,eq_self,implies_true,f4,f5]) (hP h7)
    rw [e2] at h7 ⊢
    have l2:=wT (t:=vS) l1
    generalize yR l vS s2=s3 at hK h7 is i3 i4 l2 ⊢
    simp -dsimp only [go_sem,gS,f4,f5,hcs]
    refine zE1 p l _ s3 (xV _) (.len hsh l2 h7 (by simp only [hpS,eq_self,implies_true,f4,f5])) _ _ (fun h8=>?_) (fun h8=>?_)
    rotate_left
    ·rw [i3 h8] at hP
     simp -dsimp only [go_sem,gS]
     exact vV (o:=.var (psA l s3.pos)) (.refl _) (by simp only [hpS,eq_self,implies_true,f4,f5]) (hP h8)
    have l3:=wJ (kind:=2) l2
    generalize (zS l 2 s3).1=w at hK is ⊢
    generalize (zS l 2 s3).2=s4 at hK h8 is i4 l3 ⊢
    simp -dsimp only [go_sem,gS,f4,f5,hcs]
    have e4:yR l ⟨#[116,104,101,110]⟩ s4=yR l zAM s4:=rfl
    refine zAm _ p l s4 _ (.len hsh l3 h8 (by simp only [hpS,eq_self,implies_true,f4,f5])) _ _ (fun h9=>?_) (fun h9=>?_)
    rotate_left
    ·rw [i4 h9] at hP
     simp -dsimp only [go_sem,gS]
     exact vV (o:=.var (psA l s4.pos)) (.refl _) (by simp only [hpS,eq_self,implies_true,f4,f5]) (hP h9)
    rw [e4] at h9 ⊢
    have l4:=wT (t:=zAM) l3
    generalize yR l zAM s4=s5 at hK h9 is l4 ⊢
    rw [is.2] at hK hP
    simp -dsimp only [go_sem,gS,f4,f5,hcs,hw]
    have l5:=hsp.le s5 l4
    refine ih' _ s5 (xV _) (.len hsh l4 h9 (by simp only [hpS,eq_self,implies_true,f4,f5])) _ _ (fun h10=>?_) (fun h10=>?_)
    rotate_left
    ·simp -dsimp only [go_sem,gS]
     exact vV (o:=.var (psA l s5.pos)) (.refl _) (by simp only [hpS,eq_self,implies_true,f4,f5]) (hP h10)
    have hcs5:=(q s5).1.cs_length
    generalize (q s5).1=u at hK hcs5 ⊢
    generalize (q s5).2=s6 at hK h10 ⊢
    simp -dsimp only [go_sem,gS,f4,f5,hcs,hcs5,Gl.d]
    refine vD (fun b6 v6 f6 w6=>?_)
    simp only [zN,zU] at f6
    simp -dsimp only [go_sem,gS,f4,f5,f6,hcs,hcs5]
    refine zZ ?_
    simp -dsimp only [go_sem,gS,f4,f5,f6]
    refine zB (G:=hp H [(p,.var (psA l s6.pos))]) (yM (by simp only [hpS,eq_self,implies_true,f4,f5,f6]) (by simp only [hpS,eq_self,implies_true,f4,f5,f6])) (zC ?_)
    have:=hK h10
    simp only [Gl.d,Gl.cs,Tm.none,Tm.cs,Tm.ds,Gl.ds] at this
    exact this
   ·rw [i1 h6] at hP
    simp -dsimp only [go_sem,gS]
    exact vV (o:=.var (psA l s1.pos)) (.refl _) (by simp only [hpS,eq_self,implies_true,f4]) (hP h6)
  | false =>
  rw [if_neg (c:=(rgot l kTry s).1=true) (by rw [show (rgot l kTry s).1=false from hg]; exact Bool.false_ne_true)] at hK hP
  rw [zT hg]
  simp -dsimp only [go_sem,gS,f4]
  refine xL _ p l s _ (.len hsh hle he (by simp only [hpS,eq_self,implies_true,f4])) _ ?_
  cases hg:(rgot l ⟨#[40]⟩ s).1 with
  | true =>
   obtain ⟨t1,t2,t3⟩:=tk _ hg
   rw [if_pos (show (rgot l kL s).1=true from hg)] at hK hP
   have e:rgot l ⟨#[40]⟩ s=rgot l kL s:=rfl
   rw [e]
   rw [e] at t1 t3
   generalize (rgot l kL s).2=s1 at hK hP t1 t3 ⊢
   have ih':=zIK hsp (ih (by omega))
   have hgs:=kH hsp
   generalize uQ (xP f l (n+1)) l=q at hK hP ih' hgs
   have l1:=hgs.le s1 t3
   simp -dsimp only [go_sem,gS,f4,hw]
   refine ih' _ s1 (xV _) (.len hsh t3 t1 (by simp only [hpS,eq_self,implies_true,f4])) _ _ (fun h6=>?_) (fun h6=>?_)
   ·have hcs:=(q s1).1.cs_length
    generalize (q s1).1=t at hK hcs ⊢
    generalize (q s1).2=s2 at hK hP h6 l1 ⊢
    simp -dsimp only [go_sem,gS,f4,hcs,Gl.d]
    refine yI (fun b7 f7=>?_)
    simp only [zN,zU] at f7
    simp -dsimp only [go_sem,gS,f4,f7,hcs]
    refine zAm _ p l s2 _ (.len hsh l1 h6 (by simp only [hpS,eq_self,implies_true,f4,f7])) _ _ (fun h7=>?_) (fun h7=>?_)
    ·simp -dsimp only [go_sem,gS,f4,f7,hcs]
     refine zB (G:=hp H [(p,.var (psA l (yR l zBa s2).pos))]) (yM (by simp only [hpS,eq_self,implies_true,f4,f7,zBa]) (by simp only [hpS,eq_self,implies_true,f4,f7,zBa])) (zC (hK h7))
    ·simp -dsimp only [go_sem,gS]
     exact vV (o:=.var (psA l s2.pos)) (.refl _) (by simp only [hpS,eq_self,implies_true,f4,f7]) (hP h7)
   ·rw [jH h6] at hP
    simp -dsimp only [go_sem,gS]
    exact vV (o:=.var (psA l s1.pos)) (.refl _) (by simp only [hpS,eq_self,implies_true,f4]) (hP h6)
  | false =>
  rw [if_neg (c:=(rgot l kL s).1=true) (by rw [show (rgot l kL s).1=false from hg]; exact Bool.false_ne_true)] at hK hP
  rw [zT hg]
  simp only [zBf] at hK hP
  simp -dsimp only [go_sem,gS,f4,hw]
  have ts:=vR l f (n+1)
  have tst:=zBk l f (n+1)
  generalize yS f l (n+1)=q at hK hP ts tst hterm
  refine hterm _ s (xV _) (.len hsh hle he (by simp only [hpS,eq_self,implies_true,f4])) _ _ (fun h6=>?_) (fun h6=>?_)
  ·have l1:=ts.le s hle
   generalize (q s).1=t at hK hP ⊢
   generalize (q s).2=s1 at hK hP h6 l1 ⊢
   obtain ⟨k1,k2,k3,k4⟩:=t
   simp -dsimp only [go_sem,gS,f4,Tm.d,Tm.cs]
   refine yI (fun b8 f8=>?_)
   simp only [zN,zU] at f8
   simp -dsimp only [go_sem,gS,f4,f8]
   refine xL _ p l s1 _ (.len hsh l1 h6 (by simp only [hpS,eq_self,implies_true,f4,f8])) _ ?_
   have e:rgot l ⟨#[61]⟩ s1=rgot l kEq s1:=rfl
   rw [e]
   cases hg:(rgot l kEq s1).1 with
   | true =>
    rw [if_pos hg] at hK hP
    have l2:=yQ (t:=kEq) l1
    have h7:(rgot l kEq s1).2.err=0:=by rw [wE]; exact h6
    generalize (rgot l kEq s1).2=s2 at hK hP l2 h7 ⊢
    simp -dsimp only [go_sem,gS,f4,f8,hw]
    refine hterm _ s2 (xV _) (.len hsh l2 h7 (by simp only [hpS,eq_self,implies_true,f4,f8])) _ _ (fun h8=>?_) (fun h8=>?_)
    ·generalize (q s2).1=u at hK ⊢
     generalize (q s2).2=s3 at hK h8 ⊢
     obtain ⟨j1,j2,j3,j4⟩:=u
     simp -dsimp only [go_sem,gS,f4,f8,Tm.d,Tm.cs]
     refine zZ ?_
     simp -dsimp only [go_sem,gS,f4,f8]
     refine zB (G:=hp H [(p,.var (psA l s3.pos))]) (yM (by simp only [hpS,eq_self,implies_true,f4,f8]) (by simp only [hpS,eq_self,implies_true,f4,f8])) (zC ?_)
     have:=hK h8
     simp only [Gl.d,Gl.cs,Tm.none,Tm.cs,Tm.ds,Gl.ds] at this
     exact this
    ·simp -dsimp only [go_sem,gS]
     exact vV (o:=.var (psA l s2.pos)) (.refl _) (by simp only [hpS,eq_self,implies_true,f4,f8]) (hP h8)
   | false =>
    rw [if_neg (by rw [hg]; exact Bool.false_ne_true)] at hK hP
    rw [zT hg]
    simp -dsimp only [go_sem,gS,f4,f8]
    refine zD (fun h9=>?_) (fun h9=>?_)
    ·have h9':¬ k1=3:=by simpa using h9
     rw [if_neg (show ¬ (Tm.mk k1 k2 k3 k4).kind=3 from h9'),uC,if_pos h6] at hP
     simp -dsimp only [go_sem,gS,f4,f8,vP inferInstance]
     refine jT _ _ _ _ _ ?_
     simp -dsimp only [go_sem,gS]
     exact gone (o:=.var (psA l s1.pos)) (.refl _) (by simp only [hpS,eq_self,implies_true,f4,f8]) (hP (by simp only; omega))
    ·have h9':k1=3:=by simpa using h9
     rw [if_pos (show (Tm.mk k1 k2 k3 k4).kind=3 from h9')] at hK
     simp -dsimp only [go_sem,gS,f4,f8]
     refine zZ ?_
     simp -dsimp only [go_sem,gS,f4,f8]
     refine zB (G:=hp H [(p,.var (psA l s1.pos))]) (yM (by simp only [hpS,eq_self,implies_true,f4,f8]) (by simp only [hpS,eq_self,implies_true,f4,f8])) (zC ?_)
     have:=hK h6
     simp only [Gl.d,Gl.cs,Tm.none,Tm.cs,Tm.ds,Gl.ds,Tm.name,Tm.args] at this
     rw [←Tm.ds_map k4] at this
     exact this
  ·have e:(if (rgot l kEq (q s).2).1=true then (Gl.mk 3 (q s).1 (q (rgot l kEq (q s).2).2).1 ⟨#[]⟩ [] [],(q (rgot l kEq (q s).2).2).2) else (Gl.mk 4 .none .none (q s).1.name (q s).1.args [],if (q s).1.kind=3 then (q s).2 else uC 2 (q s).2)).2.err=(q s).2.err:=by
    rw [wZ h6,if_neg Bool.false_ne_true]
    simp only [uC,if_neg h6]
    split <;> rfl
   rw [e] at hP
   simp -dsimp only [go_sem,gS]
   exact vV (o:=.var (psA l s.pos)) (.refl _) (by simp only [hpS,eq_self,implies_true,f4]) (hP h6)
end Go.Aug

/- The program's parser: constructors, ways, words of determinism (printed by PyG.py). -/
namespace Go.Aug
open Go.Proofs
set_option maxRecDepth 100000
set_option linter.unusedSimpArgs false
attribute [local irreducible] hid andK letA zR wN xX yH xR xE wR idxA ldV ldD addO xD appTo wF slA srcK nilQ retW gif sgd yT svc sops xQ yX aopO xT yU aBin aUn wK aLen zL yW zI yG xC yF yZ zJ zM yV zX yE xG xU frzM putE newK newV wP ACall xH wD zW sret cnd szs nilC yK zQ yA
attribute [local go_sem] Int.natCast_zero
def capP (p b:Nat):Heap:=hp noH [(b,.var [.ref p 0])]
theorem zMO {eb:EbG} {p b2:Nat} {l:List Tok} {q:RdS→Ty×RdS} (hq:One eb noH p l 63 [.ref p 0,.d (.int .i64 (1:Nat))] Ty.d q) (e2:eqn b2 p=false) :
  One eb (capP p b2) p l 112 [.ref b2 0] Ty.d q:=by
 intro H s hB h K KP hK hP
 have h2:=hB b2 _ (show capP p b2 b2=some (.var [.ref p 0]) by unfold capP; simp only [hpS,eq_self,implies_true,noH])
 have hsh:=h.short
 have hle:=h.le
 refine ACallP.hp_in h.at_ ?_
 refine ACallP.by mixed zXp (by simp) ?_
 conv in s112=>cbv
 refine zG ?_
 simp -dsimp only [go_sem,gS]
 refine yI (fun b9 f9=>?_)
 simp only [zN,zU] at f9
 have e24:=qG f9.2.2 b2 (by rw [h2]; rfl)
 simp -dsimp only [go_sem,gS,f9,e2,e24,h2]
 refine hq _ s (xV _) (.len hsh hle h.ok (by simp only [hpS,eq_self,implies_true,f9])) _ _ (fun h5=>?_) (fun h5=>?_)
 ·generalize (q s).1=t at hK ⊢
  generalize (q s).2=s3 at hK h5 ⊢
  have hcs:=t.cs_length
  simp -dsimp only [go_sem,gS,hcs,Ty.d,f9]
  refine zB (G:=hp H [(p,.var (psA l s3.pos))]) (yM (by simp only [hpS,eq_self,implies_true,f9]) (by simp only [hpS,eq_self,implies_true,f9])) (zC (hK h5))
 ·simp -dsimp only [go_sem,gS]
  exact vV (o:=.var (psA l s.pos)) (.refl _) (by simp only [hpS,eq_self,implies_true,f9]) (hP h5)
theorem zM5 {eb:EbG} {p b2:Nat} {l:List Tok} {q:RdS→Ty×RdS} (hq:One eb noH p l 63 [.ref p 0,.d (.int .i64 (1:Nat))] Ty.d q) (e2:eqn b2 p=false) :
  One eb (capP p b2) p l 73 [.ref b2 0] Ty.d q:=by
 intro H s hB h K KP hK hP
 have h2:=hB b2 _ (show capP p b2 b2=some (.var [.ref p 0]) by unfold capP; simp only [hpS,eq_self,implies_true,noH])
 have hsh:=h.short
 have hle:=h.le
 refine ACallP.hp_in h.at_ ?_
 refine ACallP.by mixed fn73 (by simp) ?_
 conv in s73=>cbv
 refine zG ?_
 simp -dsimp only [go_sem,gS]
 refine yI (fun b9 f9=>?_)
 simp only [zN,zU] at f9
 have e24:=qG f9.2.2 b2 (by rw [h2]; rfl)
 simp -dsimp only [go_sem,gS,f9,e2,e24,h2]
 refine hq _ s (xV _) (.len hsh hle h.ok (by simp only [hpS,eq_self,implies_true,f9])) _ _ (fun h5=>?_) (fun h5=>?_)
 ·generalize (q s).1=t at hK ⊢
  generalize (q s).2=s3 at hK h5 ⊢
  have hcs:=t.cs_length
  simp -dsimp only [go_sem,gS,hcs,Ty.d,f9]
  refine zB (G:=hp H [(p,.var (psA l s3.pos))]) (yM (by simp only [hpS,eq_self,implies_true,f9]) (by simp only [hpS,eq_self,implies_true,f9])) (zC (hK h5))
 ·simp -dsimp only [go_sem,gS]
  exact vV (o:=.var (psA l s.pos)) (.refl _) (by simp only [hpS,eq_self,implies_true,f9]) (hP h5)
theorem zM6 {eb:EbG} {p b2:Nat} {l:List Tok} {q:RdS→Tm×RdS} (hq:One eb noH p l 59 [.ref p 0,.d (.int .i64 (1:Nat))] Tm.d q) (e2:eqn b2 p=false) :
  One eb (capP p b2) p l 78 [.ref b2 0] Tm.d q:=by
 intro H s hB h K KP hK hP
 have h2:=hB b2 _ (show capP p b2 b2=some (.var [.ref p 0]) by unfold capP; simp only [hpS,eq_self,implies_true,noH])
 have hsh:=h.short
 have hle:=h.le
 refine ACallP.hp_in h.at_ ?_
 refine ACallP.by mixed fn78 (by simp) ?_
 conv in s78=>cbv
 refine zG ?_
 simp -dsimp only [go_sem,gS]
 refine yI (fun b9 f9=>?_)
 simp only [zN,zU] at f9
 have e24:=qG f9.2.2 b2 (by rw [h2]; rfl)
 simp -dsimp only [go_sem,gS,f9,e2,e24,h2]
 refine hq _ s (xV _) (.len hsh hle h.ok (by simp only [hpS,eq_self,implies_true,f9])) _ _ (fun h5=>?_) (fun h5=>?_)
 ·generalize (q s).1=t at hK ⊢
  generalize (q s).2=s3 at hK h5 ⊢
  have hcs:=t.cs_length
  simp -dsimp only [go_sem,gS,hcs,Tm.d,f9]
  refine zB (G:=hp H [(p,.var (psA l s3.pos))]) (yM (by simp only [hpS,eq_self,implies_true,f9]) (by simp only [hpS,eq_self,implies_true,f9])) (zC (hK h5))
 ·simp -dsimp only [go_sem,gS]
  exact vV (o:=.var (psA l s.pos)) (.refl _) (by simp only [hpS,eq_self,implies_true,f9]) (hP h5)
theorem zIA {eb:EbG} [On eb 1] [On eb 0] [On eb 3] (p:Nat) (l:List Tok):One eb noH p l 71 [.ref p 0] Ct.d (vW l):=by
 intro H s _ h K KP hK hP
 have hsh:=h.short
 have hle:=h.le
 have he:=h.ok
 refine ACallP.hp_in h.at_ ?_
 refine ACallP.by mixed fn71 (by simp) ?_
 conv in s71=>cbv
 refine zG ?_
 simp -dsimp only [go_sem,gS]
 refine yI (fun b1 f1=>?_)
 simp only [zN,zU] at f1
 simp -dsimp only [go_sem,gS,f1]
 refine yI (fun b2 f2=>?_)
 simp only [zN,zU] at f2
 simp -dsimp only [go_sem,gS,f1,f2]
 unfold vW at hK hP
 refine zBR p l _ s (xV _) (.len hsh hle he (by simp only [hpS,eq_self,implies_true,f1,f2])) _ _ (fun h3=>?_) (fun h3=>?_)
 ·have hle3:=wJ (kind:=1) hle
  generalize (zS l 1 s).1=w at hK hP ⊢
  generalize (zS l 1 s).2=s1 at hK hP hle3 h3 ⊢
  simp -dsimp only [go_sem,gS,f1,f2]
  refine zGi (capP p b1) _ p l s1 _ _ (xN 66 l 1) (.len hsh hle3 h3 (by simp only [hpS,eq_self,implies_true,f1,f2])) (vB (xV _) (by simp only [hpS,eq_self,implies_true,f1,f2]) (by simp only [hpS,eq_self,implies_true,noH])) (by unfold capP; simp only [hpS,eq_self,implies_true,noH,f1]) (uM l 66 1)
   (fun s hs=>qL (by omega) hs) (by kernel_rfl) (by kernel_rfl) (zMO (zIp p l 66 1 (by omega) (by omega)) (by simp only [hpS,eq_self,implies_true,f1])) _ _ (fun h4=>?_) (fun h4=>?_)
  ·generalize (yC (xN 66 l 1) l 10 [] s1).1=xs at hK hP ⊢
   generalize (yC (xN 66 l 1) l 10 [] s1).2=s2 at hK hP h4 ⊢
   simp -dsimp only [go_sem,gS,f1,f2]
   refine zB (G:=hp H [(p,.var (psA l s2.pos))]) (yM (by simp only [hpS,eq_self,implies_true,f1,f2]) (by simp only [hpS,eq_self,implies_true,f1,f2])) (zC ?_)
   have:=hK h4
   simp only [Ct.d,Ct.cs] at this
   exact this
  ·simp -dsimp only [go_sem,gS]
   exact vV (o:=.var (psA l s1.pos)) (.refl _) (by simp only [hpS,eq_self,implies_true,f1,f2]) (hP h4)
 ·rw [yJ h3] at hP
  simp -dsimp only [go_sem,gS]
  exact vV (o:=.var (psA l s.pos)) (.refl _) (by simp only [hpS,eq_self,implies_true,f1,f2]) (hP h3)
theorem zRi {eb:EbG} [On eb 1] (p:Nat) (l:List Tok):One eb noH p l 75 [.ref p 0] D.bool (vU l):=by
 intro H s _ h K KP hK hP
 have he:=h.ok
 unfold vU at hK hP
 refine ACallP.by mixed fn75 (by simp) ?_
 conv in s75=>cbv
 refine zG ?_
 simp -dsimp only [go_sem,gS]
 refine xL _ p l s _ h _ ?_
 have e:rgot l ⟨#[105,110]⟩ s=rgot l kIn s:=rfl
 rw [e]
 cases hg:(rgot l kIn s).1 with
 | true =>
  rw [hg,if_pos rfl] at hK
  simp -dsimp only [go_sem,gS]
  exact zC (hK (by rw [wE]; exact he))
 | false =>
  rw [hg,if_neg Bool.false_ne_true] at hK hP
  rw [zT hg,h.self]
  simp -dsimp only [go_sem,gS]
  refine zAm _ p l s _ h _ _ (fun h1=>?_) (fun h1=>?_)
  ·simp -dsimp only [go_sem,gS]
   exact zC (hK h1)
  ·simp -dsimp only [go_sem,gS]
   exact wS (hP h1)
theorem zPM {eb:EbG} [On eb 1] (p:Nat) (l:List Tok):One eb noH p l 76 [.ref p 0] (D.int .i64) (rdet l):=by
 intro H s _ h K KP hK hP
 have he:=h.ok
 have hs:=h.self
 refine ACallP.by mixed fn76 (by simp) ?_
 conv in s76=>cbv
 refine zG ?_
 simp -dsimp only [go_sem,gS]
 refine yP (X:=Nat) (fun k=>[(0,.ref p 0),(5,.d (.agg [.str kDet,.str jE,.str jD,.str kNon])),(6,.d (.int .i64 k))])
  (fun k G=>G=H∧k≤4∧(0 < k→(rgot l kDet s).1=false)∧(1 < k→(rgot l jE s).1=false)∧(2 < k→(rgot l jD s).1=false)∧(3 < k→(rgot l kNon s).1=false))
  (fun k=>4 - k) 0 H ⟨rfl,by omega,by omega,by omega,by omega,by omega⟩ (by simp -dsimp only [go_sem,gS,kDet,jE,jD,kNon]) (.refl _) ?_
 rintro k G ⟨rfl,hk,g0,g1,g2,g3⟩
 simp -dsimp only [go_sem,gS]
 refine zD (fun h1=>?_) (fun h1=>?_)
 ·have h1':k < 4:=by have:=of_decide_eq_true h1; omega
  have hw:=qT (k:=k) (by omega)
  have her:∀ m,(rgot l m s).2.err=0:=fun m=>by rw [wE]; exact he
  have t0:Int.toNat 0=0:=rfl
  have t1:Int.toNat 1=1:=rfl
  have t2:Int.toNat 2=2:=rfl
  have t3:Int.toNat 3=3:=rfl
  obtain rfl | rfl | rfl | rfl:k=0∨k=1∨k=2∨k=3:=by omega
  ·simp -dsimp only [go_sem,gS,t0,t1,t2,t3,Int.natCast_zero]
   refine xL _ p l s kDet h _ ?_
   cases hg:(rgot l kDet s).1 with
   | true =>
    have e:rdet l s=(1,(rgot l kDet s).2):=by
     unfold rdet
     rw [if_pos hg]
    rw [e] at hK
    simp -dsimp only [go_sem,gS]
    exact zC (hK (her _))
   | false =>
    rw [zT hg,hs]
    simp -dsimp only [go_sem,gS]
    refine zP 1 _ ⟨rfl,by omega,fun _=>by first | exact hg | trivial,by omega,by omega,by omega⟩ (by omega) ⟨rfl,rfl,rfl,trivial⟩ (.refl _)
  ·simp -dsimp only [go_sem,gS,t0,t1,t2,t3,Int.natCast_zero]
   refine xL _ p l s jE h _ ?_
   cases hg:(rgot l jE s).1 with
   | true =>
    have e:rdet l s=(2,(rgot l jE s).2):=by
     unfold rdet
     rw [if_neg (by rw [g0 (by omega)]; exact Bool.false_ne_true),if_pos hg]
    rw [e] at hK
    simp -dsimp only [go_sem,gS]
    exact zC (hK (her _))
   | false =>
    rw [zT hg,hs]
    simp -dsimp only [go_sem,gS]
    refine zP 2 _ ⟨rfl,by omega,fun _=>g0 (by omega),fun _=>by first | exact hg | trivial,by omega,by omega⟩ (by omega) ⟨rfl,rfl,rfl,trivial⟩ (.refl _)
  ·simp -dsimp only [go_sem,gS,t0,t1,t2,t3,Int.natCast_zero]
   refine xL _ p l s jD h _ ?_
   cases hg:(rgot l jD s).1 with
   | true =>
    have e:rdet l s=(3,(rgot l jD s).2):=by
     unfold rdet
     rw [if_neg (by rw [g0 (by omega)]; exact Bool.false_ne_true),if_neg (by rw [g1 (by omega)]; exact Bool.false_ne_true),if_pos hg]
    rw [e] at hK
    simp -dsimp only [go_sem,gS]
    exact zC (hK (her _))
   | false =>
    rw [zT hg,hs]
    simp -dsimp only [go_sem,gS]
    refine zP 3 _ ⟨rfl,by omega,fun _=>g0 (by omega),fun _=>g1 (by omega),fun _=>by first | exact hg | trivial,by omega⟩ (by omega) ⟨rfl,rfl,rfl,trivial⟩ (.refl _)
  ·simp -dsimp only [go_sem,gS,t0,t1,t2,t3,Int.natCast_zero]
   refine xL _ p l s kNon h _ ?_
   cases hg:(rgot l kNon s).1 with
   | true =>
    have e:rdet l s=(4,(rgot l kNon s).2):=by
     unfold rdet
     rw [if_neg (by rw [g0 (by omega)]; exact Bool.false_ne_true),if_neg (by rw [g1 (by omega)]; exact Bool.false_ne_true),if_neg (by rw [g2 (by omega)]; exact Bool.false_ne_true),if_pos hg]
    rw [e] at hK
    simp -dsimp only [go_sem,gS]
    exact zC (hK (her _))
   | false =>
    rw [zT hg,hs]
    simp -dsimp only [go_sem,gS]
    refine zP 4 _ ⟨rfl,by omega,fun _=>g0 (by omega),fun _=>g1 (by omega),fun _=>g2 (by omega),fun _=>by first | exact hg | trivial⟩ (by omega) ⟨rfl,rfl,rfl,trivial⟩ (.refl _)
 ·have h1':k=4:=by have:=of_decide_eq_false h1; omega
  subst h1'
  have e:rdet l s=(0,⟨s.pos,2⟩):=by
   unfold rdet
   rw [if_neg (by rw [g0 (by omega)]; exact Bool.false_ne_true),if_neg (by rw [g1 (by omega)]; exact Bool.false_ne_true),if_neg (by rw [g2 (by omega)]; exact Bool.false_ne_true),if_neg (by rw [g3 (by omega)]; exact Bool.false_ne_true),uC,if_pos he]
  rw [e] at hP
  simp -dsimp only [go_sem,gS,h1,vP inferInstance]
  refine jT _ _ _ _ _ ?_
  simp -dsimp only [go_sem,gS]
  exact xO (kZ G p) (wS (hP (by simp only; omega)))

def itZ:List A:=[.d (.int .i64 0),.d (.str ⟨#[]⟩),.nils,.nils,.nils,.nils,.d (.int .i64 0),.nils]++glZ
def itA (k:Int) (w:ByteArray) (vs:A) (cs ts ws:A) (d:Int) (xs:A) (bk:Int):List A:=[.d (.int .i64 k),.d (.str w),vs,cs,ts,ws,.d (.int .i64 d),xs,.d (.int .i64 bk),.d (.int .i64 0),.d (.str ⟨#[]⟩),.d (.int .i64 0),.nils,.d (.int .i64 0),.d (.str ⟨#[]⟩),.d (.int .i64 0),.nils,.d (.str ⟨#[]⟩),.nils,.nils]
theorem zEw {l:List Tok} {s:RdS} (h:s.err≠0):vW l s=(⟨⟨#[]⟩,[]⟩,s):=by simp only [vW,jK h,yJ h]
theorem zBe {l:List Tok} {k:Nat} {cs:List Ct} {s:RdS} (h:s.err≠0):qA l k cs s=(cs,s):=by cases k <;> simp [qA,wZ h]
set_option maxHeartbeats 8000000 in
theorem zM7 {eb:EbG} [On eb 1] [On eb 0] [On eb 3] (p:Nat) (l:List Tok):One eb noH p l 30 [.ref p 0] It.d (uL l):=by
 intro H s _ h K KP hK hP
 have hsh:=h.short
 have hle:=h.le
 have he:=h.ok
 have tk:∀ m,(rgot l m s).1=true→(rgot l m s).2.err=0∧(rgot l m s).2.pos≤l.length:=fun m hg=>⟨by rw [wE]; exact he,yQ hle⟩
 unfold uL at hK hP
 refine ACallP.hp_in h.at_ ?_
 refine ACallP.by mixed fn30 (by simp) ?_
 conv in s30=>cbv
 refine zG ?_
 simp -dsimp only [go_sem,gS]
 refine yI (fun b1 f1=>?_)
 simp only [zN,zU] at f1
 simp -dsimp only [go_sem,gS,f1]
 refine yI (fun b2 f2=>?_)
 simp only [zN,zU] at f2
 simp -dsimp only [go_sem,gS,f1,f2]
 refine xL _ p l s _ (.len hsh hle he (by simp only [hpS,eq_self,implies_true,f1,f2])) _ ?_
 cases hg:(rgot l ⟨#[116,121,112,101]⟩ s).1 with
 | true =>
  obtain ⟨t1,t2⟩:=tk _ hg
  rw [if_pos (show (rgot l kY s).1=true from hg)] at hK hP
  have e:rgot l ⟨#[116,121,112,101]⟩ s=rgot l kY s:=rfl
  rw [e]; rw [e] at t1 t2
  generalize (rgot l kY s).2=s1 at hK hP t1 t2 ⊢
  simp only [zBj] at hK hP
  have hP1:(zS l 1 s1).2.err≠0→KP (boxE eb (zS l 1 s1).2.err) (del H p):=fun h=>by
   simp only [yJ h,jH h,zEw h,zBe h] at hP; exact hP h
  have hP2:(yC (zS l 2) l 10 [] (zS l 1 s1).2).2.err≠0→KP (boxE eb (yC (zS l 2) l 10 [] (zS l 1 s1).2).2.err) (del H p):=fun h=>by
   simp only [jH h,zEw h,zBe h] at hP; exact hP h
  have hle3:=wJ (kind:=1) t2
  have hle4:=(wB (jY l 2) 10 []).le _ hle3
  have hend:∀ s,rend l s=true→(zS l 2 s).2.err≠0:=fun s hs=>zEP hs
  have w0:=zE1 (eb:=eb) p l
  have vst:=jY l 2
  have cl:zH Tryz.prog 70=true:=by kernel_rfl
  have pn:(zK eb).pan 70=true:=by kernel_rfl
  refine (fun (key:∀ (b3:Nat),(eqn b3 p=false∧eqn p b3=false∧eqn b3 b1=false∧eqn b1 b3=false∧eqn b3 b2=false∧eqn b2 b3=false∧H b3=none)→(yC (zS l 2) l 10 [] (zS l 1 s1).2).2.err=0→(?T1:Nat→Prop) b3)=>?main1) ?rest1
  case main1 =>
   simp -dsimp only [go_sem,gS,f1,f2]
   repeat' (first
    | (refine And.intro ?_ ?_)
    | exact True.intro
    | (refine yI (fun b3 f3=>?_); simp only [zN,zU] at f3; try simp -dsimp only [go_sem,gS,f1,f2,f3])
    | (refine zBR p l _ s1 (xV _) (.len hsh t2 t1 (by first | simp only [hpS,eq_self,implies_true,f1,f2,f3] | simp only [hpS,eq_self,implies_true,f1,f2])) _ _ (fun h3=>?_) (fun h3=>(by simp -dsimp only [go_sem,gS]; exact vV (o:=.var (psA l s1.pos)) (.refl _) (by first | simp only [hpS,eq_self,implies_true,f1,f2,f3] | simp only [hpS,eq_self,implies_true,f1,f2]) (hP1 h3))); first | simp -dsimp only [go_sem,gS,f1,f2,f3] | simp -dsimp only [go_sem,gS,f1,f2])
    | (refine zLD noH _ p l (zS l 1 s1).2 _ _ (zS l 2) (.len hsh hle3 h3 (by first | simp only [hpS,eq_self,implies_true,f1,f2,f3] | simp only [hpS,eq_self,implies_true,f1,f2])) (xV _) rfl vst hend cl pn w0 _ _ (fun h4=>?_) (fun h4=>(by simp -dsimp only [go_sem,gS]; exact vV (o:=.var (psA l (zS l 1 s1).2.pos)) (.refl _) (by first | simp only [hpS,eq_self,implies_true,f1,f2,f3] | simp only [hpS,eq_self,implies_true,f1,f2]) (hP2 h4))); first | simp -dsimp only [go_sem,gS,f1,f2,f3] | simp -dsimp only [go_sem,gS,f1,f2])
    | exact key b3 f3 h4)
  case rest1 =>
   clear hP1 hP2 hle3 hend w0 vst cl pn
   intro b3 f3 h4
   generalize (zS l 1 s1).1=w at hK ⊢
   generalize (yC (zS l 2) l 10 [] (zS l 1 s1).2).1=vs at hK ⊢
   generalize (yC (zS l 2) l 10 [] (zS l 1 s1).2).2=s4 at hK hP h4 hle4 ⊢
   have e3:yR l ⟨#[61]⟩ s4=yR l kEq s4:=rfl
   refine zAm _ p l s4 _ (.len hsh hle4 h4 (by simp only [hpS,eq_self,implies_true,f1,f2,f3])) _ _ (fun h5=>?_) (fun h5=>?_)
   rotate_left
   ·rw [e3] at h5 ⊢
    simp only [zEw h5,zBe h5] at hP
    simp -dsimp only [go_sem,gS]
    exact vV (o:=.var (psA l s4.pos)) (.refl _) (by simp only [hpS,eq_self,implies_true,f1,f2,f3]) (hP h5)
   rw [e3] at h5 ⊢
   have hle5:=wT (t:=kEq) hle4
   generalize yR l kEq s4=s5 at hK hP h5 hle5 ⊢
   simp -dsimp only [go_sem,gS,f1,f2,f3]
   refine zIA p l _ s5 (xV _) (.len hsh hle5 h5 (by simp only [hpS,eq_self,implies_true,f1,f2,f3])) _ _ (fun h6=>?_) (fun h6=>?_)
   rotate_left
   ·simp only [zBe h6] at hP
    simp -dsimp only [go_sem,gS]
    exact vV (o:=.var (psA l s5.pos)) (.refl _) (by simp only [hpS,eq_self,implies_true,f1,f2,f3]) (hP h6)
   have hle6:=(vF l).le _ hle5
   generalize (vW l s5).1=c at hK hP ⊢
   generalize (vW l s5).2=s6 at hK hP h6 hle6 ⊢
   generalize hres:qA l l.length [c] s6=res at hK hP
   obtain ⟨cn,ca⟩:=c
   simp -dsimp only [go_sem,gS,f1,f2,f3,Ct.d,Ct.cs]
   refine vD (fun b6 v6 f6 w6=>?_)
   simp only [zN,zU] at f6
   simp -dsimp only [go_sem,gS,f1,f2,f3,f6]
   refine vD (fun b8 v8 f8 w8=>?_)
   simp only [zN,zU] at f8
   simp -dsimp only [go_sem,gS,f1,f2,f3,f6,f8]
   refine yP (X:=PRow Ct) (fun x=>[(1,.ref b1 0),(2,.ref b2 0),(3,.ref b3 0)])
    (fun x G=>G=hp x.R [(p,.var (psA l x.s.pos)),(b1,.var [.ref p 0]),(b2,.var itZ),(b3,.var (itA 1 w (.d (.slice (vs.map D.str))) x.a .nils .nils 0 .nils 0))]∧Acc H [p,b1,b2,b3] 120 2 (x.xs.map Ct.d) x.a x.R∧qA l x.k x.xs x.s=res∧x.s.err=0∧x.s.pos≤l.length∧l.length≤x.k+x.s.pos∧x.xs.length≤x.s.pos+1)
    (fun x=>x.k) ⟨l.length,[⟨cn,ca⟩],s6,.own b8 v8,upd H b8 (.arr 120 2 v8 [Ct.d ⟨cn,ca⟩])⟩ _ ⟨rfl,Acc.new (by simp only [hpS,eq_self,implies_true,f8]) f8.2.2.2.2.2.2.2.2.2.2 w8,hres,h6,hle6,by simp,by simp⟩ (by simp -dsimp only [go_sem,gS])
    (by rw [zHP (by simp only [hpS,eq_self,implies_true,f8])]; exact yM (by simp only [hpS,eq_self,implies_true,f1,f2,f3,f6,f8,Ct.d,Ct.cs,itZ,itA,glZ,List.cons_append,List.nil_append]) (by simp only [hpS,eq_self,implies_true,f1,f2,f3,f6,f8])) ?_
   rintro ⟨k,xs,s7,a,R⟩ G ⟨rfl,hacc,hrun,he7,hle7,hk,hsz⟩
   simp only at hacc hrun he7 hle7 hk hsz
   have hok:okK [p,b1,b2,b3] R [(p,.var (psA l s7.pos)),(b1,.var [.ref p 0]),(b2,.var itZ),(b3,.var (itA 1 w (.d (.slice (vs.map D.str))) a .nils .nils 0 .nils 0))]:=by simp only [hpS,eq_self,implies_true,f1,f2,f3]
   have hdel:∀ n,LeH (del H p) (del (hp R [(p,.var (psA l n)),(b1,.var [.ref p 0]),(b2,.var itZ),(b3,.var (itA 1 w (.d (.slice (vs.map D.str))) a .nils .nils 0 .nils 0))]) p):=fun n=>uU (o:=.var (psA l n)) hacc.le (by simp only [hpS,eq_self,implies_true,f1,f2,f3])
   have hone1:=hacc.one
   simp -dsimp only [go_sem,gS,f1,f2,f3]
   refine xL _ p l s7 _ (.len hsh hle7 he7 (by simp only [hpS,eq_self,implies_true,f1,f2,f3])) _ ?_
   have e4:rgot l ⟨#[124]⟩ s7=rgot l kBar s7:=rfl
   rw [e4]
   cases hg:(rgot l kBar s7).1 with
   | true =>
    obtain ⟨_,hp8,hlt8⟩:=wA hg
    obtain ⟨k,rfl⟩:∃ j,k=j+1:=⟨k - 1,by omega⟩
    have hle8:=yQ (t:=kBar) hle7
    have he8:(rgot l kBar s7).2.err=0:=by rw [wE]; exact he7
    rw [qA,if_pos hg] at hrun
    generalize (rgot l kBar s7).2=s8 at hrun hp8 hle8 he8 ⊢
    simp -dsimp only [go_sem,gS,f1,f2,f3,itA,hone1]
    refine zIA p l _ s8 (xV _) (.len hsh hle8 he8 (by simp only [hpS,eq_self,implies_true,f1,f2,f3])) _ _ (fun h9=>?_) (fun h9=>?_)
    ·have hle9:=(vF l).le _ hle8
     have hge9:=(vF l).ge s8
     generalize (vW l s8).1=c at hrun ⊢
     generalize (vW l s8).2=s9 at hrun h9 hle9 hge9 ⊢
     obtain ⟨dn,da⟩:=c
     simp -dsimp only [go_sem,gS,f1,f2,f3,Ct.d,Ct.cs,hone1]
     refine vD (fun b9 v9 f9 w9=>?_)
     simp only [zN,zU] at f9
     simp -dsimp only [go_sem,gS,f1,f2,f3,f9,Ct.d,Ct.cs,hone1]
     refine hacc.appTo (by simp only [hpS,eq_self,implies_true,f1,f2,f3,f9]) (by simp only [hpS,eq_self,implies_true,f1,f2,f3]) (by simp only [List.length_map,List.length_cons,List.length_nil]; omega) (fun a' R' hacc' hn=>?_)
     have hone':=hacc'.one
     have f9':=hn b9 (by simp only [hpS,eq_self,implies_true,f1,f2,f3,f9]) f9.2.2.2.2.2.2.2.2
     rw [show xs.map Ct.d++[D.agg [.str dn,.slice (da.map Ty.d)]]=(xs++[(⟨dn,da⟩:Ct)]).map Ct.d by simp [Ct.d,Ct.cs]] at hacc'
     simp -dsimp only [go_sem,gS,f1,f2,f3,f9,hone']
     refine zP ⟨k,xs++[⟨dn,da⟩],s9,a',R'⟩ _ ⟨rfl,hacc',hrun,h9,hle9,by simp only; omega,by simp; omega⟩ (Nat.lt_succ_self k) (by simp -dsimp only [go_sem,gS]) (yM (by simp only [hpS,eq_self,implies_true,f1,f2,f3,f9,f9',itA,itZ,glZ]) (by simp only [hpS,eq_self,implies_true,f1,f2,f3,f9,f9',itA,itZ,glZ]))
    ·rw [zBe h9] at hrun
     rw [←hrun] at hP
     simp -dsimp only [go_sem,gS]
     exact xO (hdel _) (wS (hP h9))
   | false =>
    have hrun':(xs,s7)=res:=by
     rw [←hrun]
     cases k with
     | zero=>rfl
     | succ k=>rw [qA,if_neg (by simp [hg])]
    rw [←hrun'] at hK
    rw [zT hg]
    have had:∀ t,allD (a::t)=none:=fun t=>hacc.allD
    simp -dsimp only [go_sem,gS,f1,f2,f3,itA,hone1,had,itZ,glZ,List.cons_append,List.nil_append]
    refine zZ ?_
    simp -dsimp only [go_sem,gS,f1,f2,f3]
    refine hacc.deep (by simp only [hpS,eq_self,implies_true,f1,f2,f3]) (fun R' hle' hn'=>?_)
    simp -dsimp only [go_sem,gS,f1,f2,f3]
    refine zB (G:=hp H [(p,.var (psA l s7.pos))]) (vB hle' (by simp only [hpS,eq_self,implies_true,f1,f2,f3]) (by simp only [hpS,eq_self,implies_true,f1,f2,f3])) (zC ?_)
    have hall:∀ cs,It.d { (default:It) with kind:=1,name:=w,vars:=vs,ctors:=cs }=.agg [.int .i64 1,.str w,.slice (vs.map D.str),.slice (cs.map Ct.d),.slice [],.slice [],.int .i64 0,.slice [],.int .i64 0,.int .i64 0,.str ⟨#[]⟩,.int .i64 0,.slice [],.int .i64 0,.str ⟨#[]⟩,.int .i64 0,.slice [],.str ⟨#[]⟩,.slice [],.slice []]:=by
     intro cs; simp [It.d,It.cs,Gl.cs,Tm.none,Tm.cs,Tm.ds,Gl.ds,default,instInhabitedIt]
    have:=hK he7
    rw [hall] at this
    exact this
 | false =>
 rw [if_neg (c:=(rgot l kY s).1=true) (by rw [show (rgot l kY s).1=false from hg]; exact Bool.false_ne_true)] at hK hP
 rw [zT hg]
 simp -dsimp only [go_sem,gS,f1,f2]
 refine xL _ p l s _ (.len hsh hle he (by simp only [hpS,eq_self,implies_true,f1,f2])) _ ?_
 cases hg:(rgot l ⟨#[112,114,101,100]⟩ s).1 with
 | true =>
  obtain ⟨t1,t2⟩:=tk _ hg
  rw [if_pos (show (rgot l kW s).1=true from hg)] at hK hP
  have e:rgot l ⟨#[112,114,101,100]⟩ s=rgot l kW s:=rfl
  rw [e]; rw [e] at t1 t2
  generalize (rgot l kW s).2=s1 at hK hP t1 t2 ⊢
  simp only [zBi] at hK hP
  have hP1:(zS l 1 s1).2.err≠0→KP (boxE eb (zS l 1 s1).2.err) (del H p):=fun h=>by
   simp only [yJ h] at hP; exact hP h
  have hle3:=wJ (kind:=1) t2
  have vst:=uM l 66 1
  have hend:∀ s,rend l s=true→(xN 66 l 1 s).2.err≠0:=fun s hs=>qL (by omega) hs
  have w0:One eb (capP p b1) p l 73 [.ref b1 0] Ty.d (xN 66 l 1):=zM5 (zIp p l 66 1 (by omega) (by omega)) (by simp only [hpS,eq_self,implies_true,f1])
  have cl:zH Tryz.prog 73=true:=by kernel_rfl
  have pn:(zK eb).pan 73=true:=by kernel_rfl
  have hcp:capP p b1 p=none:=by unfold capP; simp only [hpS,eq_self,implies_true,noH,f1]
  refine (fun (key:(yC (xN 66 l 1) l 10 [] (zS l 1 s1).2).2.err=0→(?T4:Prop))=>?main4) ?rest4
  case main4 =>
   simp -dsimp only [go_sem,gS,f1,f2]
   repeat' (first
    | (refine And.intro ?_ ?_)
    | exact True.intro
    | (refine zBR p l _ s1 (xV _) (.len hsh t2 t1 (by simp only [hpS,eq_self,implies_true,f1,f2])) _ _ (fun h3=>?_) (fun h3=>(by simp -dsimp only [go_sem,gS]; exact vV (o:=.var (psA l s1.pos)) (.refl _) (by simp only [hpS,eq_self,implies_true,f1,f2]) (hP1 h3))); simp -dsimp only [go_sem,gS,f1,f2])
    | (refine zGi (capP p b1) _ p l (zS l 1 s1).2 _ _ (xN 66 l 1) (.len hsh hle3 h3 (by simp only [hpS,eq_self,implies_true,f1,f2])) (vB (xV _) (by simp only [hpS,eq_self,implies_true,f1,f2]) (by simp only [hpS,eq_self,implies_true,noH])) hcp vst hend cl pn w0 _ _ (fun h4=>?_) (fun h4=>(by simp -dsimp only [go_sem,gS]; exact vV (o:=.var (psA l (zS l 1 s1).2.pos)) (.refl _) (by simp only [hpS,eq_self,implies_true,f1,f2]) (hP h4))); simp -dsimp only [go_sem,gS,f1,f2])
    | exact key h4)
  case rest4 =>
  clear w0 cl pn
  intro h4
  generalize (zS l 1 s1).1=w at hK ⊢
  generalize (yC (xN 66 l 1) l 10 [] (zS l 1 s1).2).1=ts at hK ⊢
  generalize (yC (xN 66 l 1) l 10 [] (zS l 1 s1).2).2=s4 at hK h4 ⊢
  refine zZ ?_
  simp -dsimp only [go_sem,gS,f1,f2]
  refine zB (G:=hp H [(p,.var (psA l s4.pos))]) (yM (by simp only [hpS,eq_self,implies_true,f1,f2]) (by simp only [hpS,eq_self,implies_true,f1,f2])) (zC ?_)
  have hall:It.d { (default:It) with kind:=2,name:=w,types:=ts }=.agg [.int .i64 2,.str w,.slice [],.slice [],.slice (ts.map Ty.d),.slice [],.int .i64 0,.slice [],.int .i64 0,.int .i64 0,.str ⟨#[]⟩,.int .i64 0,.slice [],.int .i64 0,.str ⟨#[]⟩,.int .i64 0,.slice [],.str ⟨#[]⟩,.slice [],.slice []]:=by
   simp [It.d,It.cs,Gl.cs,Tm.none,Tm.cs,Tm.ds,Gl.ds,default,instInhabitedIt]
  have:=hK h4
  rw [hall] at this
  exact this
 | false =>
 rw [if_neg (c:=(rgot l kW s).1=true) (by rw [show (rgot l kW s).1=false from hg]; exact Bool.false_ne_true)] at hK hP
 rw [zT hg]
 simp -dsimp only [go_sem,gS,f1,f2]
 refine xL _ p l s _ (.len hsh hle he (by simp only [hpS,eq_self,implies_true,f1,f2])) _ ?_
 cases hg:(rgot l ⟨#[109,111,100,101]⟩ s).1 with
 | true =>
  obtain ⟨t1,t2⟩:=tk _ hg
  rw [if_pos (show (rgot l kV s).1=true from hg)] at hK hP
  have e:rgot l ⟨#[109,111,100,101]⟩ s=rgot l kV s:=rfl
  rw [e]; rw [e] at t1 t2
  generalize (rgot l kV s).2=s1 at hK hP t1 t2 ⊢
  simp only [zBh] at hK hP
  have hde:∀ s,s.err≠0→(rdet l s).2=s:=fun s h=>by simp only [rdet,wZ h,Bool.false_eq_true,if_false,uC,if_neg h]
  have hP1:(zS l 1 s1).2.err≠0→KP (boxE eb (zS l 1 s1).2.err) (del H p):=fun h=>by
   simp only [yJ h,jH h,hde _ h] at hP; exact hP h
  have hP2:(yC (vU l) l 10 [] (zS l 1 s1).2).2.err≠0→KP (boxE eb (yC (vU l) l 10 [] (zS l 1 s1).2).2.err) (del H p):=fun h=>by
   simp only [jH h,hde _ h] at hP; exact hP h
  have hle3:=wJ (kind:=1) t2
  have vst:vI l (vU l):=qZ l
  have hle4:=(wB vst 10 []).le _ hle3
  have hend:∀ s,rend l s=true→(vU l s).2.err≠0:=fun s hs=>zC0 hs
  have w0:=zRi (eb:=eb) p l
  have cl:zH Tryz.prog 75=true:=by kernel_rfl
  have pn:(zK eb).pan 75=true:=by kernel_rfl
  refine (fun (key:∀ (b3:Nat),(eqn b3 p=false∧eqn p b3=false∧eqn b3 b1=false∧eqn b1 b3=false∧eqn b3 b2=false∧eqn b2 b3=false∧H b3=none)→(yC (vU l) l 10 [] (zS l 1 s1).2).2.err=0→(?T2:Nat→Prop) b3)=>?main2) ?rest2
  case main2 =>
   simp -dsimp only [go_sem,gS,f1,f2]
   repeat' (first
    | (refine And.intro ?_ ?_)
    | exact True.intro
    | (refine yI (fun b3 f3=>?_); simp only [zN,zU] at f3; try simp -dsimp only [go_sem,gS,f1,f2,f3])
    | (refine zBR p l _ s1 (xV _) (.len hsh t2 t1 (by first | simp only [hpS,eq_self,implies_true,f1,f2,f3] | simp only [hpS,eq_self,implies_true,f1,f2])) _ _ (fun h3=>?_) (fun h3=>(by simp -dsimp only [go_sem,gS]; exact vV (o:=.var (psA l s1.pos)) (.refl _) (by first | simp only [hpS,eq_self,implies_true,f1,f2,f3] | simp only [hpS,eq_self,implies_true,f1,f2]) (hP1 h3))); first | simp -dsimp only [go_sem,gS,f1,f2,f3] | simp -dsimp only [go_sem,gS,f1,f2])
    | (refine zJX noH _ p l (zS l 1 s1).2 _ _ (vU l) (.len hsh hle3 h3 (by first | simp only [hpS,eq_self,implies_true,f1,f2,f3] | simp only [hpS,eq_self,implies_true,f1,f2])) (xV _) rfl vst hend cl pn w0 _ _ (fun h4=>?_) (fun h4=>(by simp -dsimp only [go_sem,gS]; exact vV (o:=.var (psA l (zS l 1 s1).2.pos)) (.refl _) (by first | simp only [hpS,eq_self,implies_true,f1,f2,f3] | simp only [hpS,eq_self,implies_true,f1,f2]) (hP2 h4))); first | simp -dsimp only [go_sem,gS,f1,f2,f3] | simp -dsimp only [go_sem,gS,f1,f2])
    | exact key b3 f3 h4)
  case rest2 =>
   clear hP1 hP2 hle3 hend w0 vst cl pn
   intro b3 f3 h4
   generalize (zS l 1 s1).1=w at hK ⊢
   generalize (yC (vU l) l 10 [] (zS l 1 s1).2).1=vs at hK ⊢
   generalize (yC (vU l) l 10 [] (zS l 1 s1).2).2=s4 at hK hP h4 hle4 ⊢
   have e3:yR l ⟨#[105,115]⟩ s4=yR l kIs s4:=rfl
   refine zAm _ p l s4 _ (.len hsh hle4 h4 (by simp only [hpS,eq_self,implies_true,f1,f2,f3])) _ _ (fun h5=>?_) (fun h5=>?_)
   rotate_left
   ·rw [e3] at h5 ⊢
    simp only [hde _ h5] at hP
    simp -dsimp only [go_sem,gS]
    exact vV (o:=.var (psA l s4.pos)) (.refl _) (by simp only [hpS,eq_self,implies_true,f1,f2,f3]) (hP h5)
   rw [e3] at h5 ⊢
   have hle5:=wT (t:=kIs) hle4
   generalize yR l kIs s4=s5 at hK hP h5 hle5 ⊢
   simp -dsimp only [go_sem,gS,f1,f2,f3]
   refine zPM p l _ s5 (xV _) (.len hsh hle5 h5 (by simp only [hpS,eq_self,implies_true,f1,f2,f3])) _ _ (fun h6=>?_) (fun h6=>(by simp -dsimp only [go_sem,gS]; exact vV (o:=.var (psA l s5.pos)) (.refl _) (by simp only [hpS,eq_self,implies_true,f1,f2,f3]) (hP h6)))
   generalize (rdet l s5).1=n at hK ⊢
   generalize (rdet l s5).2=s6 at hK h6 ⊢
   simp -dsimp only [go_sem,gS,f1,f2,f3]
   refine zZ ?_
   simp -dsimp only [go_sem,gS,f1,f2,f3]
   refine zB (G:=hp H [(p,.var (psA l s6.pos))]) (yM (by simp only [hpS,eq_self,implies_true,f1,f2,f3]) (by simp only [hpS,eq_self,implies_true,f1,f2,f3])) (zC ?_)
   have hall:It.d { (default:It) with kind:=3,name:=w,ways:=vs,det:=n }=.agg [.int .i64 3,.str w,.slice [],.slice [],.slice [],.slice (vs.map D.bool),.int .i64 n,.slice [],.int .i64 0,.int .i64 0,.str ⟨#[]⟩,.int .i64 0,.slice [],.int .i64 0,.str ⟨#[]⟩,.int .i64 0,.slice [],.str ⟨#[]⟩,.slice [],.slice []]:=by
    simp [It.d,It.cs,Gl.cs,Tm.none,Tm.cs,Tm.ds,Gl.ds,default,instInhabitedIt]
   have:=hK h6
   rw [hall] at this
   exact this
 | false =>
 rw [if_neg (c:=(rgot l kV s).1=true) (by rw [show (rgot l kV s).1=false from hg]; exact Bool.false_ne_true)] at hK hP
 rw [zT hg]
 simp only [qB] at hK hP
 have hP1:(zS l 1 s).2.err≠0→KP (boxE eb (zS l 1 s).2.err) (del H p):=fun h=>by
  simp only [yJ h,wZ h,Bool.false_eq_true,if_false] at hP; exact hP h
 have hP2:(yC (yS 66 l 1) l 10 [] (zS l 1 s).2).2.err≠0→KP (boxE eb (yC (yS 66 l 1) l 10 [] (zS l 1 s).2).2.err) (del H p):=fun h=>by
  simp only [wZ h,Bool.false_eq_true,if_false] at hP; exact hP h
 have hle3:=wJ (kind:=1) hle
 have vst:=vR l 66 1
 have hle4:=(wB vst 10 []).le _ hle3
 have hend:∀ s,rend l s=true→(yS 66 l 1 s).2.err≠0:=fun s hs=>kJ (by omega) hs
 have w0:One eb (capP p b1) p l 78 [.ref b1 0] Tm.d (yS 66 l 1):=zM6 (zGr p l 66 1 (by omega) (by omega)) (by simp only [hpS,eq_self,implies_true,f1])
 have cl:zH Tryz.prog 78=true:=by kernel_rfl
 have pn:(zK eb).pan 78=true:=by kernel_rfl
 have hcp:capP p b1 p=none:=by unfold capP; simp only [hpS,eq_self,implies_true,noH,f1]
 refine (fun (key:∀ (b3:Nat),(eqn b3 p=false∧eqn p b3=false∧eqn b3 b1=false∧eqn b1 b3=false∧eqn b3 b2=false∧eqn b2 b3=false∧H b3=none)→(yC (yS 66 l 1) l 10 [] (zS l 1 s).2).2.err=0→(?T3:Nat→Prop) b3)=>?main3) ?rest3
 case main3 =>
  simp -dsimp only [go_sem,gS,f1,f2]
  repeat' (first
   | (refine And.intro ?_ ?_)
   | exact True.intro
   | (refine yI (fun b3 f3=>?_); simp only [zN,zU] at f3; try simp -dsimp only [go_sem,gS,f1,f2,f3])
   | (refine zBR p l _ s (xV _) (.len hsh hle he (by first | simp only [hpS,eq_self,implies_true,f1,f2,f3] | simp only [hpS,eq_self,implies_true,f1,f2])) _ _ (fun h3=>?_) (fun h3=>(by simp -dsimp only [go_sem,gS]; exact vV (o:=.var (psA l s.pos)) (.refl _) (by first | simp only [hpS,eq_self,implies_true,f1,f2,f3] | simp only [hpS,eq_self,implies_true,f1,f2]) (hP1 h3))); first | simp -dsimp only [go_sem,gS,f1,f2,f3] | simp -dsimp only [go_sem,gS,f1,f2])
   | (refine zJa (capP p b1) _ p l (zS l 1 s).2 _ _ (yS 66 l 1) (.len hsh hle3 h3 (by first | simp only [hpS,eq_self,implies_true,f1,f2,f3] | simp only [hpS,eq_self,implies_true,f1,f2])) (vB (xV _) (by first | simp only [hpS,eq_self,implies_true,f1,f2,f3] | simp only [hpS,eq_self,implies_true,f1,f2]) (by simp only [hpS,eq_self,implies_true,noH])) hcp vst hend cl pn w0 _ _ (fun h4=>?_) (fun h4=>(by simp -dsimp only [go_sem,gS]; exact vV (o:=.var (psA l (zS l 1 s).2.pos)) (.refl _) (by first | simp only [hpS,eq_self,implies_true,f1,f2,f3] | simp only [hpS,eq_self,implies_true,f1,f2]) (hP2 h4))); first | simp -dsimp only [go_sem,gS,f1,f2,f3] | simp -dsimp only [go_sem,gS,f1,f2])
   | exact key b3 f3 h4)
 case rest3 =>
  clear hP1 hP2 hle3 hend w0 vst cl pn
  intro b3 f3 h4
  generalize (zS l 1 s).1=w at hK ⊢
  generalize (yC (yS 66 l 1) l 10 [] (zS l 1 s).2).1=vs at hK ⊢
  generalize (yC (yS 66 l 1) l 10 [] (zS l 1 s).2).2=s4 at hK hP h4 hle4 ⊢
  have e3:rgot l ⟨#[58,45]⟩ s4=rgot l kIf s4:=rfl
  refine xL _ p l s4 _ (.len hsh hle4 h4 (by simp only [hpS,eq_self,implies_true,f1,f2,f3])) _ ?_
  rw [e3]
  cases hg:(rgot l kIf s4).1 with
  | true =>
   simp only [hg,if_true] at hK hP
   have hle5:=yQ (t:=kIf) hle4
   have h5:(rgot l kIf s4).2.err=0:=by rw [wE]; exact h4
   generalize (rgot l kIf s4).2=s5 at hK hP h5 hle5 ⊢
   simp -dsimp only [go_sem,gS,f1,f2,f3]
   have hgl:One eb noH p l 53 [.ref p 0,.d (.int .i64 (1:Nat))] Gl.d (zA1 66 l 1):=zIK (vG l 66 1) (zI2 p l 66 1 (by omega) (by omega))
   generalize zA1 66 l 1=q at hK hP hgl
   refine hgl _ s5 (xV _) (.len hsh hle5 h5 (by simp only [hpS,eq_self,implies_true,f1,f2,f3])) _ _ (fun h6=>?_) (fun h6=>(by simp -dsimp only [go_sem,gS]; exact vV (o:=.var (psA l s5.pos)) (.refl _) (by simp only [hpS,eq_self,implies_true,f1,f2,f3]) (hP h6)))
   generalize (q s5).1=g at hK ⊢
   generalize (q s5).2=s6 at hK h6 ⊢
   have hcs:=g.cs_length
   simp -dsimp only [go_sem,gS,f1,f2,f3,hcs,Gl.d]
   refine zZ ?_
   simp -dsimp only [go_sem,gS,f1,f2,f3]
   refine zB (G:=hp H [(p,.var (psA l s6.pos))]) (yM (by simp only [hpS,eq_self,implies_true,f1,f2,f3]) (by simp only [hpS,eq_self,implies_true,f1,f2,f3])) (zC ?_)
   have:=hK h6
   simp [It.d,It.cs,default,instInhabitedIt] at this
   exact this
  | false =>
   simp only [hg,Bool.false_eq_true,if_false] at hK
   rw [zT hg]
   simp -dsimp only [go_sem,gS,f1,f2,f3]
   refine zZ ?_
   simp -dsimp only [go_sem,gS,f1,f2,f3]
   refine zB (G:=hp H [(p,.var (psA l s4.pos))]) (yM (by simp only [hpS,eq_self,implies_true,f1,f2,f3]) (by simp only [hpS,eq_self,implies_true,f1,f2,f3])) (zC ?_)
   have hall:It.d { (default:It) with kind:=4,name:=w,args:=vs,body:=.mk 1 .none .none ⟨#[]⟩ [] [] }=.agg [.int .i64 4,.str w,.slice [],.slice [],.slice [],.slice [],.int .i64 0,.slice (vs.map Tm.d),.int .i64 1,.int .i64 0,.str ⟨#[]⟩,.int .i64 0,.slice [],.int .i64 0,.str ⟨#[]⟩,.int .i64 0,.slice [],.str ⟨#[]⟩,.slice [],.slice []]:=by
    simp [It.d,It.cs,Gl.cs,Tm.none,Tm.cs,Tm.ds,Gl.ds,default,instInhabitedIt]
   have:=hK h4
   rw [hall] at this
   exact this

theorem zCV {l:List Tok} {k:Nat} {is:List It} {s:RdS} (h:s.err≠0):wW l k is s=(is,s):=by
 have hr:rend l s=true:=by simp [rend,h]
 cases k with
 | zero=>rfl
 | succ k=>rw [wW,if_pos hr]
theorem zJT {l:List Tok} {k:Nat} {is:List It} {s:RdS} (he:s.err=0) (h:l.length≤s.pos):wW l k is s=(is,s):=by
 have hr:rend l s=true:=by rw [jG he]; simpa using h
 cases k with
 | zero=>rfl
 | succ k=>rw [wW,if_pos hr]
set_option maxHeartbeats 4000000 in
theorem zM8 {eb:EbG} [On eb 1] [On eb 0] [On eb 3] (p:Nat) (l:List Tok):One eb noH p l 28 [.ref p 0] (fun is=>D.slice (is.map It.d)) (wW l (l.length+1) []):=by
 intro H s _ h K KP hK hP
 have hsh:=h.short
 have hle:=h.le
 have he:=h.ok
 generalize hres:wW l (l.length+1) [] s=res at hK hP
 refine ACallP.hp_in h.at_ ?_
 refine ACallP.by mixed fn28 (by simp) ?_
 conv in s28=>cbv
 refine zG ?_
 simp -dsimp only [go_sem,gS]
 refine yP (X:=PRow It) (fun x=>[(0,.ref p 0),(3,x.a)])
  (fun x G=>G=hp x.R [(p,.var (psA l x.s.pos))]∧Acc H [p] 44 20 (x.xs.map It.d) x.a x.R∧wW l x.k x.xs x.s=res∧x.s.err=0∧x.s.pos≤l.length∧l.length < x.k+x.s.pos∧x.xs.length≤512)
  (fun x=>x.k) ⟨l.length+1,[],s,.nils,H⟩ _ ⟨rfl,Acc.nils ..,hres,he,hle,by simp only; omega,by simp⟩ (by simp -dsimp only [go_sem,gS]) (.refl _) ?_
 rintro ⟨k,xs,s2,a,R⟩ G ⟨rfl,hacc,hrun,he2,hle2,hk,hn⟩
 simp only at hacc hrun he2 hle2 hk hn
 have hok:okK [p] R [(p,.var (psA l s2.pos))]:=by simp only [hpS,eq_self,implies_true,hsh]
 have hdel:∀ n,LeH (del H p) (del (hp R [(p,.var (psA l n))]) p):=fun n=>uU (o:=.var (psA l n)) hacc.le (by simp only [hpS,eq_self,implies_true,hsh])
 simp -dsimp only [go_sem,gS]
 refine zD (fun h1=>?_) (fun h1=>?_)
 ·have h1':s2.pos < l.length:=by have:=of_decide_eq_true h1; omega
  have hr:rend l s2=false:=by rw [jG he2]; simp; omega
  obtain ⟨k,rfl⟩:∃ j,k=j+1:=⟨k - 1,by omega⟩
  rw [wW,if_neg (by rw [hr]; exact Bool.false_ne_true)] at hrun
  simp -dsimp only [go_sem,gS]
  refine zA (hacc.lenable (by simp -dsimp only [go_sem,gS])) ?_
  rw [hacc.len hok]
  simp -dsimp only [go_sem,gS]
  refine zD (fun h2=>?_) (fun h2=>?_)
  ·have h2':xs.length=512:=by have:=of_decide_eq_true h2; omega
   rw [if_pos h2',uC,if_pos he2] at hrun
   rw [←hrun] at hP
   simp -dsimp only [go_sem,gS,h2,vP inferInstance]
   refine jT _ _ _ _ _ ?_
   simp -dsimp only [go_sem,gS]
   exact xO ((hdel _).trans (kZ _ p)) (wS (hP (by simp only; omega)))
  ·have h2':¬ xs.length=512:=by have:=of_decide_eq_false h2; omega
   rw [if_neg h2'] at hrun
   simp -dsimp only [go_sem,gS,h2]
   refine zM7 p l _ s2 (xV _) (.len hsh hle2 he2 (by simp only [hpS,eq_self,implies_true,hsh])) _ _ (fun h3=>?_) (fun h3=>?_)
   ·have hle3:=(zAn l).le _ hle2
    have hge3:=(zAn l).ge s2
    have hcs:=(uL l s2).1.cs_length
    generalize (uL l s2).1=t at hrun hcs ⊢
    generalize (uL l s2).2=s3 at hrun hle3 hge3 h3 ⊢
    simp -dsimp only [go_sem,gS,hcs,It.d]
    refine vD (fun b6 v6 f6 w6=>?_)
    simp only [zN,zU] at f6
    simp -dsimp only [go_sem,gS,f6,hcs,It.d]
    refine hacc.appTo (by simp only [hpS,eq_self,implies_true,f6]) (by simp only [hpS,eq_self,implies_true,hsh]) (by simp only [List.length_map,List.length_cons,List.length_nil]; omega) (fun a' R' hacc' hnn=>?_)
    have hone':=hacc'.one
    have f60:=hacc.le.free f6.2.2
    have f6':=hnn b6 (by simp only [hpS,eq_self,implies_true,f6]) f6.2.2
    rw [show xs.map It.d++[D.agg t.cs]=(xs++[t]).map It.d by simp [It.d]] at hacc'
    simp -dsimp only [go_sem,gS,f6,hone']
    have e4:yR l ⟨#[46]⟩ s3=yR l kDot s3:=rfl
    refine zAm _ p l s3 _ (.len hsh hle3 h3 (by simp only [hpS,eq_self,implies_true,f6])) _ _ (fun h4=>?_) (fun h4=>?_)
    ·rw [e4] at h4 ⊢
     have hle4:=wT (t:=kDot) hle3
     have hge4:=(zAc h4).2
     simp -dsimp only [go_sem,gS,f6]
     refine zP ⟨k,xs++[t],yR l kDot s3,a',R'⟩ _ ⟨rfl,hacc',hrun,h4,hle4,by simp only; omega,by simp; omega⟩ (Nat.lt_succ_self k) (by simp -dsimp only [go_sem,gS]) (yM (by simp only [hpS,eq_self,implies_true,f6,f6']) (by simp only [hpS,eq_self,implies_true,f6,f6']))
    ·rw [e4] at h4 ⊢
     rw [zCV h4] at hrun
     rw [←hrun] at hP
     simp -dsimp only [go_sem,gS]
     refine xO (uU (o:=.var (psA l s3.pos)) hacc'.le (by simp only [hpS,eq_self,implies_true,f6,f60])) (wS (hP h4))
   ·rw [jH h3,zCV h3] at hrun
    rw [←hrun] at hP
    simp -dsimp only [go_sem,gS]
    exact xO (hdel _) (wS (hP h3))
 ·have h1':l.length≤s2.pos:=by have:=of_decide_eq_false h1; omega
  rw [zJT he2 h1'] at hrun
  rw [←hrun] at hK
  simp -dsimp only [go_sem,gS]
  refine zZ ?_
  refine hacc.deep (by simp only [hpS,eq_self,implies_true,hsh]) (fun R' hle' hn'=>?_)
  refine zB (G:=hp H [(p,.var (psA l s2.pos))]) (vB hle' (by simp only [hpS,eq_self,implies_true,hsh]) (by simp only [hpS,eq_self,implies_true,hsh])) (zC (hK he2))

def errD (e:Int):D:=if e=0 then .raw .nilIface else .sent (errG e)
class Errs (eb:EbG):Prop where
 a:On eb 1
 b:On eb 0
 c:On eb 3
 d:On eb 2
instance {eb:EbG} [h:Errs eb]:On eb 1:=h.a
instance {eb:EbG} [h:Errs eb]:On eb 0:=h.b
instance {eb:EbG} [h:Errs eb]:On eb 3:=h.c
instance {eb:EbG} [h:Errs eb]:On eb 2:=h.d
def zSp (eb:EbG):Prop:=∀ (H:Heap) (s:ByteArray) (K:A→Heap→Prop),K (.tup [.d (.slice ((rlex s).1.map Tok.d)),.d (errD (rlex s).2)]) H→ACall Tryz.prog (zK eb) 65 [.d (.str s)] H K
def zEO {α:Type} (q:List Tok→RdS→α×RdS) (enc:α→D) (z:D) (s:ByteArray):D×Int :=
 if (zBU (rlex s).1 (q (rlex s).1 ⟨0,(rlex s).2⟩).2).err≠0 then (z,(zBU (rlex s).1 (q (rlex s).1 ⟨0,(rlex s).2⟩).2).err) else (enc (q (rlex s).1 ⟨0,(rlex s).2⟩).1,0)
theorem zFx {l:List Tok} {s:RdS} (h:s.err≠0):zBU l s=s:=by rw [zBU,if_neg (fun hh=>h hh.1)]
theorem zPm:(Tryz.prog.underlying 116).map (fun u=>match u with | .struct _=>true | _=>false)=some true:=by kernel_rfl
theorem zX8:(Tryz.prog.info? 116).map (fun i=>(i.zero,i.size))=some (some (.agg #[.nilIface]),1):=by kernel_rfl
theorem zPB {S:TypeId} (w:World):(Instr.typeAssert .nilIface S 116 true).run Tryz.prog w=.ok (.tuple #[.agg #[.nilIface],.bool false]) w:=by
 have h1:=zPm
 have h2:=zX8
 cases hu:Tryz.prog.underlying 116 with
 | none=>rw [hu] at h1; cases h1
 | some u =>
  cases hi:Tryz.prog.info? 116 with
  | none=>rw [hi] at h2; cases h2
  | some i =>
   rw [hu] at h1; rw [hi] at h2
   simp only [Option.map_some,Option.some.injEq,Prod.mk.injEq] at h1 h2
   cases u with
   | struct fs=>simp [Instr.typeAssert,run_underlying hu,zeroValue,typeInfo,hi,h2.1]
   | _=>cases h1
theorem zMI {S:TypeId} (u:Value) (w:World):(Instr.typeAssert (.iface 116 u) S 116 true).run Tryz.prog w=.ok (.tuple #[u,.bool true]) w:=by
 have h1:=zPm
 cases hu:Tryz.prog.underlying 116 with
 | none=>rw [hu] at h1; cases h1
 | some u' =>
  rw [hu] at h1
  simp only [Option.map_some,Option.some.injEq] at h1
  cases u' with
  | struct fs=>simp [Instr.typeAssert,run_underlying hu]
  | _=>cases h1
theorem zJV (s:ByteArray):(rlex s).1.length < 1073741824:=by have:=zGh s; omega
theorem zPS (cv:Array Value) (w1:World):(invoke (.fn (.func 66) cv) #[]).run Tryz.prog w1=.ok (.enter 66 cv) w1:=by
 have hn:(Tryz.f66.name == "runtime.NumGoroutine")=false:=by kernel_rfl
 have h1:Tryz.f66.name ≠ "runtime.NumGoroutine" := by simpa using hn
 have hb:(Tryz.f66.body.isSome)=true:=by kernel_rfl
 obtain ⟨c,hc⟩:=Option.isSome_iff_exists.1 hb
 have hf:Tryz.prog.funcs[(66:Nat)]?=some Tryz.f66:=by kernel_rfl
 show (callFunc 66 (#[]++cv)).run Tryz.prog w1=.ok (.enter 66 cv) w1
 simp [callFunc,hf,h1,hc]
theorem zXI:zHC Tryz.prog 2 66:=by
 intro cv w hcv
 obtain ⟨l⟩:=cv
 match l,hcv with
 | [p,q],_ =>
 have hf:Tryz.prog.funcs[(66:Nat)]?=some Tryz.f66:=by kernel_rfl
 have hnt:Tryz.f66.ntmps=14:=by kernel_rfl
 have hres:Tryz.f66.results=#[]:=by kernel_rfl
 refine callsDIn_of_wpSIn hf rfl trivial fun c₀ cs hu=>?_
 apply wpSIn_seq
 apply wpSIn_region
 have hta:=zPB (S:=20)
 simp [wpOpsSIn,go_sem,recoverD,hu,hnt,Exit.thenS,hta]
 apply wpSIn_seq
 apply wpSIn_region
 simp [wpOpsSIn,go_sem,Exit.thenS]
 refine wpSIn_cond (t:=false) (by simp [Act.eval,Array.replicate]) ?_
 simp only [Bool.false_eq_true,if_false]
 refine wpSIn_of_wpIn rfl (wpIn_skip ?_)
 have hb:RowKit.Below w.heap.size w (w.alloc (Obj.cells #[Value.nilIface] 116)):=(RowKit.Below.refl w.heap.size w).alloc (Nat.le_refl _) _
 cases c₀
 simp_all [bodyPostS,results]
noncomputable def s66o:List SOper:=(sopL (sfst s66)).drop 2
noncomputable def s66x:SCode:=ssnd s66
theorem zU7:s66=.seq (.reg (skp (sfst s66)) ({ dst:=some 6,gd:=none,op:=.call { callee:=.builtin .recover,args:=#[],argTypes:=#[] } }::{ dst:=some 7,gd:=none,op:=.typeAssert (.tmp 6) 20 116 true }::s66o)) s66x:=by kernel_rfl
theorem recI {eb:EbG} (R:Heap) (b4 b5 g:Nat) (z:A) (h45:eqn b5 b4=false∧eqn b4 b5=false∧R b4=none∧R b5=none):RecD Tryz.prog (zK eb) 66 [.ref b4 0,.ref b5 0] (hp R [(b4,.var [z]),(b5,.var [.d (.raw .nilIface)])]) (boxV eb g) (hp R [(b4,.var [.nils]),(b5,.var [.d (.sent g)])]):=by
 refine RecD.by (x:=.tup [.d (.agg [.sent g]),.d (.bool true)]) mixed (by have:=fn66; rw [zU7] at this; exact this) (by kernel_rfl) (by simp) (by decide) (by decide) (zMI _) (fun w Z=>?_) ?_
 ·refine .tup [_,_] [_,_] rfl fun j h h'=>?_
  match j,h with
  | 0,_=>exact .d _ _ (.agg [_] [_] rfl (by simp [Value.oneCell']; rfl) fun j h h'=>by
    match j,h with
    | 0,_=>exact .sent g)
  | 1,_=>exact .d _ _ (.bool true)
 ·conv in s66o=>cbv
  conv in s66x=>cbv
  refine zJP ?_
  simp -dsimp only [go_sem,gS,h45]
  refine yI (fun b2 f2=>?_)
  simp only [zN,zU] at f2
  simp -dsimp only [go_sem,gS,h45,f2]
  refine zB (G:=hp R [(b4,.var [.nils]),(b5,.var [.d (.sent g)])]) (yM (by simp only [hpS,eq_self,implies_true,h45,f2]) (by simp only [hpS,eq_self,implies_true,h45,f2])) (zC rfl)
noncomputable def s27a:SCode:=sfst s27
noncomputable def s27b:SCode:=sfst (ssnd s27)
noncomputable def s27c:SCode:=sfst (ssnd (ssnd s27))
noncomputable def s27d:SCode:=ssnd (ssnd (ssnd (ssnd s27)))
theorem zU6:s27=.seq s27a (.seq s27b (.seq s27c (.seq (.reg (skp (sfst (ssnd (ssnd (ssnd s27))))) [{ dst:=some 17,gd:=none,op:=.makeFunc (.func 66) #[] #[.tmp 4,.tmp 5] },{ dst:=none,gd:=none,op:=.defer { callee:=.value (.tmp 17),args:=#[],argTypes:=#[] } }]) s27d))):=by kernel_rfl
set_option maxHeartbeats 4000000 in
theorem zLR {eb:EbG} [Errs eb] (hlex:zSp eb) (s:ByteArray) (H:Heap) (K:A→Heap→Prop) (hK:K (.tup [.d (zEO (fun l=>wW l (l.length+1) []) (fun is=>.slice (is.map It.d)) (.slice []) s).1,.d (errD (zEO (fun l=>wW l (l.length+1) []) (fun is=>.slice (is.map It.d)) (.slice []) s).2)]) H) :
  ACall Tryz.prog (zK eb) 27 [.d (.str s),.func 28 []] H K:=by
 have hsh:=zJV s
 unfold zEO at hK
 refine ACall.rescuedQ mixed (by have:=fn27; rw [zU6] at this; exact this) (caps:=#[.tmp 4,.tmp 5]) (by simp) (by decide) zPS zXI ?_
 conv in s27a=>cbv
 conv in s27b=>cbv
 conv in s27c=>cbv
 conv in s27d=>cbv
 refine zG ?_
 refine (?_:letA (numb 0 _) (hid (fun l=>svc _ _ _ _ _ (mkF l) (hp H [])) ⟨⟩))
 simp -dsimp only [go_sem,gS]
 refine yI (fun b4 f4=>?_)
 simp only [zN,zU] at f4
 simp -dsimp only [go_sem,gS,f4]
 refine yI (fun b5 f5=>?_)
 simp only [zN,zU] at f5
 simp -dsimp only [go_sem,gS,f4,f5]
 refine hlex _ _ _ ?_
 generalize hL:(rlex s).1=l at hK hsh ⊢
 by_cases he:(rlex s).2=0
 ·rw [he] at hK ⊢
  have e0:errD 0=.raw .nilIface:=rfl
  simp -dsimp only [go_sem,gS,f4,f5,e0]
  refine zA rfl ?_
  simp -dsimp only [go_sem,gS,f4,f5]
  refine yI (fun b7 f7=>?_)
  simp only [zN,zU] at f7
  have cl:zH Tryz.prog 28=true:=by kernel_rfl
  have pn:(zK eb).pan 28=true:=by kernel_rfl
  simp -dsimp only [go_sem,gS,f4,f5,f7,cl,pn]
  have bad:∀ (z:A) (G:Heap) (F:Nat→A) (e:Int),e≠0→LeH (hp H [(b4,.var [z]),(b5,.var [.d (.raw .nilIface)])]) G→F 4=.ref b4 0→F 5=.ref b5 0→K (.tup [.d (.slice []),.d (errD e)]) H →
    zIi Tryz.prog (zK eb) 35 [.cell 4 23,.cell 5 25] 66 [.ref b4 0,.ref b5 0] K (.panic [{ v:=boxE eb e,recovered:=false }]) F G:=by
   intro z G F e he' hG hF4 hF5 hk
   refine zIj (hp H [(b4,.var [.nils]),(b5,.var [.d (.sent (errG e))])]) ((recI H b4 b5 _ z (by simp only [hpS,eq_self,implies_true,f4,f5])).le hG) ?_
   simp -dsimp only [go_sem,gS,hF4,hF5,f4,f5]
   refine vL [true,true] ?_
   simp -dsimp only [go_sem,gS,f4,f5]
   have e1:errD e=.sent (errG e):=if_neg he'
   rw [e1] at hk
   exact zB (vQ (by simp only [hpS,eq_self,implies_true,f4,f5])) (zC hk)
  have hone:=zM8 (eb:=eb) b7 l
  generalize hq:(wW l (l.length+1) []:RdS→_)=q at hone
  simp only [hq] at hK
  refine hone _ ⟨0,0⟩ (xV _) ⟨by simp only [hpS,eq_self,implies_true,f4,f5,f7]; rfl,hsh,Nat.zero_le _,rfl⟩ _ _ (fun h1=>?_) (fun h1=>?_)
  ·generalize (q ⟨0,0⟩).1=x at hK ⊢
   generalize (q ⟨0,0⟩).2=s2 at hK h1 ⊢
   simp -dsimp only [go_sem,gS,f4,f5,f7]
   refine zD (fun h2=>?_) (fun h2=>?_)
   ·have h2':s2.pos < l.length:=by have:=of_decide_eq_true h2; omega
    have e2:zBU l s2=⟨s2.pos,2⟩:=by rw [zBU,if_pos ⟨h1,h2'⟩]
    rw [e2,if_pos (by simp only; omega)] at hK
    simp -dsimp only [go_sem,gS,f4,f5,f7,vP inferInstance]
    refine jT _ _ _ _ _ ?_
    simp -dsimp only [go_sem,gS,f4,f5,f7]
    exact bad (.d (.slice (x.map It.d))) _ _ 2 (by decide) (yM (by simp only [hpS,eq_self,implies_true,f4,f5,f7]) (by simp only [hpS,eq_self,implies_true,f4,f5,f7])) (by simp -dsimp only [go_sem,gS]) (by simp -dsimp only [go_sem,gS]) hK
   ·have h2':¬ s2.pos < l.length:=by have:=of_decide_eq_false h2; omega
    have e2:zBU l s2=s2:=by rw [zBU,if_neg (fun h=>h2' h.2)]
    rw [e2,if_neg (fun h=>h h1)] at hK
    simp -dsimp only [go_sem,gS,f4,f5,f7]
    refine vL [true,true] ?_
    simp -dsimp only [go_sem,gS,f4,f5,f7]
    exact zB (vQ (by simp only [hpS,eq_self,implies_true,f4,f5,f7])) (zC hK)
  ·rw [zFx h1,if_pos h1] at hK
   simp -dsimp only [go_sem,gS,f4,f5,f7]
   exact bad (.nils) _ _ _ h1 (yM (by simp only [hpS,eq_self,implies_true,f4,f5,f7]) (by simp only [hpS,eq_self,implies_true,f4,f5,f7])) (by simp -dsimp only [go_sem,gS]) (by simp -dsimp only [go_sem,gS]) hK
 ·have e0:errD (rlex s).2=.sent (errG (rlex s).2):=if_neg he
  have e1:(zBU l (wW l (l.length+1) [] ⟨0,(rlex s).2⟩).2).err=(rlex s).2:=by
   have h1:=(fun e he=>congrArg RdS.err (congrArg Prod.snd (zCV (l:=l) (k:=l.length+1) (is:=[]) (s:=⟨0,e⟩) he))) (rlex s).2 he
   rw [zFx (by rw [h1]; exact he),h1]
  rw [e1,if_pos he,e0] at hK
  rw [e0]
  simp -dsimp only [go_sem,gS,f4,f5]
  refine vL [true,true] ?_
  simp -dsimp only [go_sem,gS,f4,f5]
  exact zB (vQ (by simp only [hpS,eq_self,implies_true,f4,f5])) (zC hK)
end Go.Aug
