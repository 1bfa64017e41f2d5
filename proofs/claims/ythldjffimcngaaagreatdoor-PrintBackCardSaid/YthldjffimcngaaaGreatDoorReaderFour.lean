/- The facts of the program's functions, and the contracts of its lexer and parser; conditions stand in each contract. -/
import Derived.Test.YthldjffimcngaaaGreatDoorReaderThree
import Derived.Test.YthldjffimcngaaaGreatDoorPiecesOne
import Derived.Test.YthldjffimcngaaaGreatDoorGrammarOne
import Derived.Test.YthldjffimcngaaaGreatDoorReaderTwo
import Derived.Sort.Grow
set_option linter.all false
set_option linter.unusedVariables false
set_option linter.unusedSimpArgs false
set_option linter.unusedSectionVars false

/- The library's functions that the program's lexer calls, by the shelf's contracts. -/
namespace Go.Aug
open Go.Proofs
set_option maxRecDepth 100000
set_option linter.unusedSimpArgs false
theorem zCd {eb:EbG} (H:Heap) (s:ByteArray) (c:Int) (K:A→Heap→Prop) (hK:K (.d (.int .i64 (Lib.indexByte s.data.toList c.toNat.toUInt8))) H):ACall Tryz.prog (zK eb) 133 [.d (.str s),.d (.int .u8 c)] H K:=by
 intro Z w cv hl hr m
 match cv,hl with
 | [v,u],_ =>
  have r:=(hr 0 (by simp) (by simp)).deep
  have r2:=(hr 1 (by simp) (by simp)).deep
  simp only [List.getElem_cons_zero,List.getElem_cons_succ] at r r2
  cases r; cases r2
  refine (Tryz.strings_IndexByte s c w).mono ?_
  rintro e w' ⟨rfl,rfl⟩
  exact ⟨_,_,Z,H,rfl,.d _ _ (.int ..),m,.refl ..,hK⟩
theorem zGQ {eb:EbG} (H:Heap) (s t:ByteArray) (K:A→Heap→Prop) (hK:K (.d (.bool (Lib.hasPrefix s.data.toList t.data.toList))) H):ACall Tryz.prog (zK eb) 140 [.d (.str s),.d (.str t)] H K:=by
 intro Z w cv hl hr m
 match cv,hl with
 | [v,u],_ =>
  have r:=(hr 0 (by simp) (by simp)).deep
  have r2:=(hr 1 (by simp) (by simp)).deep
  simp only [List.getElem_cons_zero,List.getElem_cons_succ] at r r2
  cases r; cases r2
  refine (Tryz.strings_HasPrefix s t w).mono ?_
  rintro e w' ⟨rfl,rfl⟩
  exact ⟨_,_,Z,H,rfl,.d _ _ (.bool ..),m,.refl ..,hK⟩
class TabM (eb:EbG):Prop where
 tab:∃ T fr,eb.mm 4=some (.cells (Lib.pow10Tab.map fun z=>Value.int .u64 z).toArray T fr)
theorem zEp:Tryz.prog.globalNamed "internal/strconv.uint64pow10" = some 4:=by kernel_rfl
theorem zJx (w:World) (k:Nat) (os:Array Obj):RowKit.Below w.heap.size w (Go.Sort.grow (w.drewN k) os) :=
 ⟨rfl,rfl,rfl,by show w.heap.size≤(w.heap++os).size; simp,fun i hi=>by show (w.heap++os)[i]?=w.heap[i]?; rw [Array.getElem?_append_left hi]⟩
theorem zIM {eb:EbG} [hm:TabM eb] (H:Heap) (n:Int) (h0:-9223372036854775808≤n) (h1:n≤9223372036854775807) (K:A→Heap→Prop) (hK:K (.d (.str ⟨(Lib.itoa n).toArray⟩)) H):ACall Tryz.prog (zK eb) 60 [.d (.int .i64 n)] H K:=by
 intro Z w cv hl hr m
 match cv,hl with
 | [v],_ =>
  have r:=(hr 0 (by simp) (by simp)).deep
  simp only [List.getElem_cons_zero] at r
  cases r
  obtain ⟨T,fr,ht⟩:=hm.tab
  obtain ⟨_,_,hh⟩:=m.env.fix 4 _ ht
  have htab:Lib.TabIs Tryz.prog w "internal/strconv.uint64pow10" .u64 Lib.pow10Tab:=by
   unfold Lib.TabIs World.var?
   simp [zEp,hh]
  refine (Tryz.strconv_Itoa n h0 h1 w htab).mono ?_
  rintro e w' ⟨rfl,k,os,rfl⟩
  obtain ⟨m',x'⟩:=m.below (zJx w k os)
  exact ⟨_,_,Z,H,rfl,.d _ _ (.str _),m',x',hK⟩
theorem zMJ {eb:EbG} [h17:On eb 8] [h18:On eb 9] (H:Heap) (s:ByteArray) (hs:s.size≤16384) (K:A→Heap→Prop)
  (hK:∀ v,Lib.atoiAll s.data.toList=.ok v→K (.tup [.d (.int .i64 v),.d (.raw .nilIface)]) H)
  (hE:∀ v t u,(∀ v,Lib.atoiAll s.data.toList≠.ok v)→K (.tup [.d (.int .i64 v),.d (.raw (.iface t u))]) H):ACall Tryz.prog (zK eb) 148 [.d (.str s)] H K:=by
 intro Z w cv hl hr m
 match cv,hl with
 | [v],_ =>
  have r:=(hr 0 (by simp) (by simp)).deep
  simp only [List.getElem_cons_zero] at r
  cases r
  have tup:∀ (w':World) (Z':Nat→Prop) (a b:Value) (x y:D),RepD (zK eb) w' Z' a x→RepD (zK eb) w' Z' b y→RepA (zK eb) w' Z' (.tuple #[a,b]) (.tup [.d x,.d y]):=fun w' Z' a b x y ha hb =>
   .tup [a,b] [.d x,.d y] rfl fun j h h'=>by
    match j,h with
    | 0,_=>exact .d _ _ ha
    | 1,_=>exact .d _ _ hb
  have sentc:∀ g,On eb g→∃ ev,w.cell? ⟨g,0,none⟩=some ev∧(ev=.nilIface∨∃ te pe,ev=.iface te pe):=fun g hg=>by
   obtain ⟨_,_,v,hv,_,rv⟩:=m.env.glob g (.sent g) (vP hg)
   refine ⟨v,hv,.inr ?_⟩
   cases rv
   exact ⟨_,_,rfl⟩
  cases ha:Lib.atoiAll s.data.toList with
  | ok v =>
   refine (Tryz.strconv_Atoi_ok s (by omega) v ha w).mono ?_
   rintro e w' ⟨rfl,hw⟩
   have hb:RowKit.Below w.heap.size w w':=by
    rcases hw with rfl | ⟨t,rfl⟩
    ·exact RowKit.Below.refl _ _
    ·exact Lib.bytesWorld_below _ _ _
   obtain ⟨m',x'⟩:=m.below hb
   exact ⟨_,_,Z,H,rfl,tup _ _ _ _ _ _ (.int ..) (.raw _ rfl),m',x',hK v ha⟩
  | range =>
   obtain ⟨ev,h1,h2⟩:=sentc _ h18
   refine (Tryz.strconv_Atoi_range s (by omega) ha ev w h1 h2).mono ?_
   rintro e w' ⟨N,rfl,_,_,hb⟩
   obtain ⟨m',x'⟩:=m.below hb
   exact ⟨_,_,Z,H,rfl,tup _ _ _ _ _ _ (.int ..) (.raw _ rfl),m',x',hE _ _ _ (by rw [ha]; intro v h; cases h)⟩
  | _ =>
   obtain ⟨ev,h1,h2⟩:=sentc _ h17
   refine (Tryz.strconv_Atoi_none s (by omega) ⟨fun v h=>(by rw [ha] at h; cases h),fun h=>(by rw [ha] at h; cases h)⟩ ev w h1 h2).mono ?_
   rintro e w' ⟨N,rfl,_,_,hb⟩
   obtain ⟨m',x'⟩:=m.below hb
   exact ⟨_,_,Z,H,rfl,tup _ _ _ _ _ _ (.int ..) (.raw _ rfl),m',x',hE _ _ _ (by rw [ha]; intro v h; cases h)⟩
theorem zMW (s:ByteArray) (a b:Nat):(s.extract a b).data.toList=(s.data.toList.drop a).take (b - a):=by
 rw [ByteArray.data_extract,Array.toList_extract,List.extract_eq_drop_take]
theorem zOH {q:UInt8→Bool} {s:ByteArray} {n:Nat} (h:n≤s.size):∀ j,n≤j→j < uE q s n→∃ c,s[j]?=some c∧q c=true:=by
 rw [←zAp]; exact zBl _ _ h
theorem zNh {s:ByteArray} {p:Nat} {c:UInt8} (hc:s[p]?=some c) (hd:isDig c=true∨(c.toNat:Int)=45) :
  (∀ n,pNum (s.extract p (uE isDig s (p+1)))=some n→rInt (s.extract p (uE isDig s (p+1)))=(n,true))∧(pNum (s.extract p (uE isDig s (p+1)))=none→(rInt (s.extract p (uE isDig s (p+1)))).2=false):=by
 have hlt:=zAZ hc
 have hle:=zEV (q:=isDig) (s:=s) (n:=p+1) hlt
 have hall:=zOH (q:=isDig) (s:=s) (n:=p+1) hlt
 generalize uE isDig s (p+1)=m at hle hall
 have hl:(s.extract p m).data.toList=c::(s.data.toList.drop (p+1)).take (m - (p+1)):=by
  rw [zMW,zFV (by rw [←qK]; exact hc),show m - p=(m - (p+1))+1 by omega,List.take_succ_cons]
 have hds:∀ x ∈ (s.data.toList.drop (p+1)).take (m - (p+1)),digC x:=fun x hx=>by
  obtain ⟨j,hj⟩:=List.mem_iff_getElem?.1 hx
  rw [List.getElem?_take] at hj
  split at hj
  ·rename_i hjm
   rw [List.getElem?_drop,←qK] at hj
   obtain ⟨y,hy,hq⟩:=hall (p+1+j) (by omega) (by omega)
   rw [hj] at hy; cases hy
   exact isDig_iff.1 hq
  ·cases hj
 rcases hd with hd | hd
 ·refine zIZ (fun x hx=>?_) (by rw [hl]; simp)
  rw [hl] at hx
  rcases List.mem_cons.1 hx with rfl | hx
  ·exact isDig_iff.1 hd
  ·exact hds x hx
 ·have e:c=45:=UInt8.toNat_inj.1 (by show c.toNat=45; omega)
  subst e
  exact zIY hl hds
end Go.Aug

/- The program's lexer: bytes, blanks, spans. -/
namespace Go.Aug
open Go.Proofs
set_option maxRecDepth 100000
set_option linter.unusedSimpArgs false
attribute [local irreducible] hid andK letA zR wN xX yH xR xE wR idxA ldV ldD addO xD appTo wF slA srcK nilQ retW gif sgd yT svc sops xQ yX aopO xT yU aBin aUn wK aLen zL yW zI yG xC yF yZ zJ zM yV zX yE xG xU frzM putE newK newV wP ACall xH wD zW sret cnd szs nilC yK zQ yA
attribute [local go_sem] Int.natCast_zero
theorem zJe {eb:EbG} (H:Heap) (c:UInt8) (K:A→Heap→Prop) (hK:K (.d (.bool (uB c))) H):ACall Tryz.prog (zK eb) 134 [.d (.int .u8 c.toNat)] H K:=by
 refine ACall.by mixed zXz (by simp) ?_
 conv in s134=>cbv
 refine zG ?_
 simp -dsimp only [go_sem,gS]
 repeat' (first | (refine zD (fun h=>?_) (fun h=>?_) <;> (try simp -dsimp only [go_sem,gS, *])) | (refine yO (fun b v hb hn hm hv=>?_); (try simp -dsimp only [go_sem,gS, *])) | (refine yL (fun b hb hn hm=>?_); (try simp -dsimp only [go_sem,gS, *])) | (refine qR (fun b v hb hn hm hv=>?_); (try simp -dsimp only [go_sem,gS, *])) | (refine zA (by omega) ?_; (try simp -dsimp only [go_sem,gS, *])) | (refine zAE ?_ (fun h=>?_) <;> (try simp -dsimp only [go_sem,gS, *])) | (refine And.intro ?_ ?_ <;> (try simp -dsimp only [go_sem,gS, *])) | (refine (fun (v:Value) (hv:v.ownBlock=some _)=>?_); (try simp -dsimp only [go_sem,gS, *])))
 all_goals refine zC ?_
 all_goals simp_all [uB]
def zA8 (c:UInt8):Bool:=(decide ((65:Int)≤(c.toNat:Int)) && decide ((c.toNat:Int)≤90)) || decide ((c.toNat:Int)=95)
theorem zFX {eb:EbG} (H:Heap) (c:UInt8) (K:A→Heap→Prop) (hK:K (.d (.bool (zA8 c))) H):ACall Tryz.prog (zK eb) 135 [.d (.int .u8 c.toNat)] H K:=by
 refine ACall.by mixed zXA (by simp) ?_
 conv in s135=>cbv
 refine zG ?_
 simp -dsimp only [go_sem,gS]
 repeat' (first | (refine zD (fun h=>?_) (fun h=>?_) <;> (try simp -dsimp only [go_sem,gS, *])) | (refine yO (fun b v hb hn hm hv=>?_); (try simp -dsimp only [go_sem,gS, *])) | (refine yL (fun b hb hn hm=>?_); (try simp -dsimp only [go_sem,gS, *])) | (refine qR (fun b v hb hn hm hv=>?_); (try simp -dsimp only [go_sem,gS, *])) | (refine zA (by omega) ?_; (try simp -dsimp only [go_sem,gS, *])) | (refine zAE ?_ (fun h=>?_) <;> (try simp -dsimp only [go_sem,gS, *])) | (refine And.intro ?_ ?_ <;> (try simp -dsimp only [go_sem,gS, *])) | (refine (fun (v:Value) (hv:v.ownBlock=some _)=>?_); (try simp -dsimp only [go_sem,gS, *])))
 all_goals refine zC ?_
 all_goals simp_all [zA8]
theorem zD5 {eb:EbG} (H:Heap) (c:UInt8) (K:A→Heap→Prop) (hK:K (.d (.bool (isDig c))) H):ACall Tryz.prog (zK eb) 138 [.d (.int .u8 c.toNat)] H K:=by
 refine ACall.by mixed zXD (by simp) ?_
 conv in s138=>cbv
 refine zG ?_
 simp -dsimp only [go_sem,gS]
 repeat' (first | (refine zD (fun h=>?_) (fun h=>?_) <;> (try simp -dsimp only [go_sem,gS, *])) | (refine yO (fun b v hb hn hm hv=>?_); (try simp -dsimp only [go_sem,gS, *])) | (refine yL (fun b hb hn hm=>?_); (try simp -dsimp only [go_sem,gS, *])) | (refine qR (fun b v hb hn hm hv=>?_); (try simp -dsimp only [go_sem,gS, *])) | (refine zA (by omega) ?_; (try simp -dsimp only [go_sem,gS, *])) | (refine zAE ?_ (fun h=>?_) <;> (try simp -dsimp only [go_sem,gS, *])) | (refine And.intro ?_ ?_ <;> (try simp -dsimp only [go_sem,gS, *])) | (refine (fun (v:Value) (hv:v.ownBlock=some _)=>?_); (try simp -dsimp only [go_sem,gS, *])))
 all_goals refine zC ?_
 all_goals simp_all [isDig]
theorem zIL (c:UInt8):uG c=(uB c || zA8 c):=by
 unfold uG zA8
 rw [Bool.or_assoc]
theorem zDz {eb:EbG} (H:Heap) (c:UInt8) (K:A→Heap→Prop) (hK:K (.d (.bool (uG c || isDig c))) H):ACall Tryz.prog (zK eb) 137 [.d (.int .u8 c.toNat)] H K:=by
 rw [zIL] at hK
 refine ACall.by mixed zXC (by simp) ?_
 conv in s137=>cbv
 refine zG ?_
 simp -dsimp only [go_sem,gS]
 refine zJe _ c _ ?_
 cases h1:uB c with
 | true =>
  simp -dsimp only [go_sem,gS]
  refine zC ?_
  simpa [h1] using hK
 | false =>
  simp -dsimp only [go_sem,gS]
  refine zFX _ c _ ?_
  cases h2:zA8 c with
  | true =>
   simp -dsimp only [go_sem,gS]
   refine zC ?_
   simpa [h1,h2] using hK
  | false =>
   simp -dsimp only [go_sem,gS]
   refine zD5 _ c _ ?_
   simp -dsimp only [go_sem,gS]
   refine zC ?_
   simpa [h1,h2] using hK
def zKg (eb:EbG) (g:FuncId) (q:UInt8→Bool):Prop:=∀ (H:Heap) (c:UInt8) (K:A→Heap→Prop),K (.d (.bool (q c))) H→ACall Tryz.prog (zK eb) g [.d (.int .u8 c.toNat)] H K
set_option maxHeartbeats 1000000 in
theorem zIf {eb:EbG} (H:Heap) (s:ByteArray) (p:Nat) (g:FuncId) (q:UInt8→Bool) (hs:s.size≤16384) (hp:p≤s.size) (hq:zKg eb g q) (hcl:zH Tryz.prog g=true) (hpan:(zK eb).pan g=false)
  (K:A→Heap→Prop) (hK:K (.d (.int .i64 ((uE q s p - p:Nat):Int))) H):ACall Tryz.prog (zK eb) 136 [.d (.str s),.d (.int .i64 p),.func g []] H K:=by
 refine ACall.by mixed zXB (by simp) ?_
 conv in s136=>cbv
 refine zG ?_
 simp -dsimp only [go_sem,gS]
 refine yP (X:=Nat) (fun n=>[(0,.d (.str s)),(1,.d (.int .i64 p)),(2,.func g []),(7,.d (.int .i64 n))])
  (fun n G=>G=H∧p≤n∧n≤s.size∧uE q s n=uE q s p) (fun n=>s.size - n) p H ⟨rfl,Nat.le_refl _,hp,rfl⟩ (by simp -dsimp only [go_sem,gS]) (.refl _) ?_
 rintro n G ⟨rfl,h1,h2,h3⟩
 simp -dsimp only [go_sem,gS]
 have fin:uE q s n=n→K (.d (.int .i64 (IntKind.i64.wrap ((n:Int) - (p:Int))))) G:=fun h=>by
  rw [←h3,h] at hK
  rw [jP (by omega) (by omega),show (n:Int) - (p:Int)=((n - p:Nat):Int) by omega]; exact hK
 refine zD (fun h4=>?_) (fun h4=>?_)
 ·have h4':n < s.size:=by have:=of_decide_eq_true h4; omega
  obtain ⟨c,hc⟩:=zHI h4'
  have hw:=qT (k:=n) (by omega)
  simp -dsimp only [go_sem,gS,h4,hc,hcl,hpan]
  refine hq _ c _ ?_
  have hst:=zAV (q:=q) hc
  cases hqc:q c with
  | true =>
   rw [hqc,if_pos rfl] at hst
   simp -dsimp only [go_sem,gS,hw]
   refine zP (n+1) _ ⟨rfl,by omega,by omega,by rw [←hst]; exact h3⟩ (by omega) (by simp -dsimp only [go_sem,gS]) (.refl _)
  | false =>
   rw [hqc,if_neg Bool.false_ne_true] at hst
   simp -dsimp only [go_sem,gS]
   exact zC (fin hst)
 ·have h4':s.size≤n:=by have:=of_decide_eq_false h4; omega
  simp -dsimp only [go_sem,gS,h4]
  exact zC (fin (zFJ h4'))
set_option maxHeartbeats 2000000 in
theorem zLJ {eb:EbG} (H:Heap) (s:ByteArray) (p:Nat) (hs:s.size≤16384) (hp:p≤s.size) (K:A→Heap→Prop) (hK:∀ p',zSq s p p'→K (.d (.int .i64 (p':Nat))) H):ACall Tryz.prog (zK eb) 125 [.d (.str s),.d (.int .i64 p)] H K:=by
 refine ACall.by mixed zXw (by simp) ?_
 conv in s125=>cbv
 refine zG ?_
 simp -dsimp only [go_sem,gS]
 refine yP (X:=Nat) (fun n=>[(0,.d (.str s)),(1,.d (.int .i64 n))])
  (fun n G=>G=H∧p≤n∧n≤s.size∧∀ ts,toks s p false ts=toks s n false ts) (fun n=>s.size - n) p H ⟨rfl,Nat.le_refl _,hp,fun _=>rfl⟩ (by simp -dsimp only [go_sem,gS]) (.refl _) ?_
 rintro n G ⟨rfl,h1,h2,h3⟩
 simp -dsimp only [go_sem,gS]
 refine zD (fun h4=>?_) (fun h4=>?_)
 ·have h4':n < s.size:=by have:=of_decide_eq_true h4; omega
  obtain ⟨c,hc⟩:=zHI h4'
  have hw:=qT (k:=n) (by omega)
  have hst:=fun ts=>zAq (cm:=false) (ts:=ts) hc
  have hbl:vC c=true→∀ ts,toks s p false ts=toks s (n+1) false ts:=fun hb ts=>by rw [h3,hst,if_neg Bool.false_ne_true,if_pos hb]
  simp -dsimp only [go_sem,gS,h4,hc]
  refine zD (fun g0=>?_) (fun g0=>?_)
  ·simp -dsimp only [go_sem,gS,g0,hw]
   exact zP (n+1) _ ⟨rfl,by omega,by omega,hbl (by simp only [vC,g0,Bool.true_or,Bool.or_true])⟩ (by omega) (by simp -dsimp only [go_sem,gS]) (.refl _)
  simp -dsimp only [go_sem,gS,g0]
  refine zD (fun g1=>?_) (fun g1=>?_)
  ·simp -dsimp only [go_sem,gS,g1,hw]
   exact zP (n+1) _ ⟨rfl,by omega,by omega,hbl (by simp only [vC,g1,Bool.true_or,Bool.or_true])⟩ (by omega) (by simp -dsimp only [go_sem,gS]) (.refl _)
  simp -dsimp only [go_sem,gS,g1]
  refine zD (fun g2=>?_) (fun g2=>?_)
  ·simp -dsimp only [go_sem,gS,g2,hw]
   exact zP (n+1) _ ⟨rfl,by omega,by omega,hbl (by simp only [vC,g2,Bool.true_or,Bool.or_true])⟩ (by omega) (by simp -dsimp only [go_sem,gS]) (.refl _)
  simp -dsimp only [go_sem,gS,g2]
  refine zD (fun g3=>?_) (fun g3=>?_)
  ·simp -dsimp only [go_sem,gS,g3,hw]
   exact zP (n+1) _ ⟨rfl,by omega,by omega,hbl (by simp only [vC,g3,Bool.true_or,Bool.or_true])⟩ (by omega) (by simp -dsimp only [go_sem,gS]) (.refl _)
  simp -dsimp only [go_sem,gS,g3]
  have hnb:vC c=false:=by simp only [vC,g0,g1,g2,g3,Bool.or_false]
  refine zD (fun g4=>?_) (fun g4=>?_)
  ·have g4':=of_decide_eq_true g4
   simp -dsimp only [go_sem,gS,g4,h2]
   refine zCd _ _ 10 _ ?_
   rw [zC5,show (10:Int).toNat.toUInt8=10 from rfl]
   rcases zC9 (s.data.toList.drop n) 10 with ⟨i1,i2⟩ | ⟨m,i1,i2,i3,i4⟩
   ·have ng:decide ((-1:Int) < 0)=true:=rfl
    rw [i1]
    simp -dsimp only [go_sem,gS,ng]
    refine zC (hK s.size ⟨hp,Nat.le_refl _,fun ts=>by rw [h3,zPF hc g4' i2],fun c' hc'=>?_⟩)
    rw [zBJ (Nat.le_refl _)] at hc'; cases hc'
   ·have hl:m < s.size - n:=by simpa using i2
    have ng:decide ((m:Int) < 0)=false:=decide_eq_false (by omega)
    have hw2:IntKind.i64.wrap ((n:Int)+(m:Int))=((n+m:Nat):Int):=by rw [jP (by omega) (by omega)]; omega
    have hm0:m≠0:=fun e=>by
     subst e
     rw [List.getElem?_drop,Nat.add_zero,←qK,hc] at i3
     cases i3; revert g4'; decide
    rw [i1]
    simp -dsimp only [go_sem,gS,ng,hw2]
    exact zP (n+m) _ ⟨rfl,by omega,by omega,fun ts=>by rw [h3,zML hc g4' i3 i4]⟩ (by omega) (by simp -dsimp only [go_sem,gS]) (.refl _)
  ·have g4':=of_decide_eq_false g4
   simp -dsimp only [go_sem,gS,g4]
   refine zC (hK n ⟨h1,h2,h3,fun c' hc'=>?_⟩)
   rw [hc] at hc'; cases hc'
   exact ⟨hnb,g4'⟩
 ·have h4':s.size≤n:=by have:=of_decide_eq_false h4; omega
  simp -dsimp only [go_sem,gS,h4]
  refine zC (hK n ⟨h1,h2,h3,fun c hc=>?_⟩)
  rw [zBJ h4'] at hc; cases hc
theorem zHy (s:ByteArray) (p:Nat):kP s p=(⟨3,s.extract p (uE isDig s (p+1)),(rInt (s.extract p (uE isDig s (p+1)))).1⟩,
  (rInt (s.extract p (uE isDig s (p+1)))).2 && (decide (uE isDig s (p+1)=s.size) || !zG2 s (uE isDig s (p+1)))):=by
 unfold kP; rw [zAp]
set_option maxHeartbeats 2000000 in
theorem zKT {eb:EbG} [TabM eb] [On eb 8] [On eb 9] (H:Heap) (s:ByteArray) (p:Nat) (c:UInt8) (hs:s.size≤16384) (hc:s[p]?=some c) (hd:isDig c=true∨(c.toNat:Int)=45) (K:A→Heap→Prop)
  (hK:∀ t,((kP s p).2=true→t=(kP s p).1)→K (.tup [.d t.d,.d (.bool (kP s p).2)]) H):ACall Tryz.prog (zK eb) 139 [.d (.str s),.d (.int .i64 p)] H K:=by
 have hlt:=zAZ hc
 obtain ⟨hm1,hm2⟩:=zEV (q:=isDig) (s:=s) (n:=p+1) hlt
 have hnum:=zNh hc hd
 have hnd:=zBZ (q:=isDig) (s:=s) _ (p+1) rfl
 rw [zHy] at hK
 refine ACall.hp_start ?_
 refine ACall.by mixed zXE (by simp) ?_
 conv in s139=>cbv
 refine zG ?_
 simp -dsimp only [go_sem,gS]
 refine yI (fun b4 f4=>?_)
 simp only [zN,zU] at f4
 simp -dsimp only [go_sem,gS,hc,hlt,f4]
 generalize hM:uE isDig s (p+1)=m at hm1 hm2 hnum hnd hK
 have w1:IntKind.i64.wrap ((p:Int)+1)=((p+1:Nat):Int):=qT (by omega)
 have w2:IntKind.i64.wrap (1+((m - (p+1):Nat):Int))=((m - p:Nat):Int):=by rw [jP (by omega) (by omega)]; omega
 have w3:IntKind.i64.wrap ((p:Int)+0)=(p:Int):=by rw [jP (by omega) (by omega)]; omega
 have w4:IntKind.i64.wrap (0+((m - p:Nat):Int))=((m - p:Nat):Int):=by rw [jP (by omega) (by omega)]; omega
 have w5:IntKind.i64.wrap ((p:Int)+((m - p:Nat):Int))=(m:Int):=by rw [jP (by omega) (by omega)]; omega
 have cl:zH Tryz.prog 138=true:=by kernel_rfl
 have pn:(zK eb).pan 138=false:=by kernel_rfl
 have hq:zKg eb 138 isDig:=fun H c K hK=>zD5 H c K hK
 have hp1:p+1≤s.size:=hlt
 have hp0:p≤s.size:=Nat.le_of_lt hlt
 have hdig:¬ (c.toNat:Int)=45→uE isDig s p=m:=fun h=>by
  rw [zAV hc,if_pos (hd.resolve_right h),hM]
 refine (fun (key:(?T:Prop))=>?main) ?rest
 case main =>
  refine zD (fun h1=>?_) (fun h1=>?_)
  ·simp -dsimp only [go_sem,gS,h1,f4,w1,cl,pn]
   refine zIf _ s (p+1) _ isDig hs hp1 hq cl pn _ ?_
   rw [hM]
   simp -dsimp only [go_sem,gS,f4,w2]
   exact key
  ·simp -dsimp only [go_sem,gS,h1,f4,w3,cl,pn]
   refine zIf _ s p _ isDig hs hp0 hq cl pn _ ?_
   rw [hdig (of_decide_eq_false h1)]
   simp -dsimp only [go_sem,gS,f4,w4]
   exact key
 case rest =>
  have hpm:p≤m:=by omega
  simp -dsimp only [go_sem,gS,f4,w5,hm2,hpm]
  have hsz:(s.extract p m).size≤16384:=by simp; omega
  have hno:(rInt (s.extract p m)).2=false→K (.tup [.d (Tok.d ⟨0,⟨#[]⟩,0⟩),.d (.bool false)]) H:=fun h=>by
   have:=hK ⟨0,⟨#[]⟩,0⟩ (fun h2=>by rw [h,Bool.false_and] at h2; cases h2)
   rw [h,Bool.false_and] at this
   exact this
  generalize hW:s.extract p m=w at hK hnum hsz hno ⊢
  refine zMJ _ w hsz _ (fun v hv=>?_) (fun v t u hv=>?_)
  ·obtain ⟨vb0,vb1⟩:=Lib.atoiAll_bounds hv
   simp -dsimp only [go_sem,gS,f4]
   refine zA rfl ?_
   simp -dsimp only [go_sem,gS,f4]
   refine zIM _ v vb0 vb1 _ ?_
   simp -dsimp only [go_sem,gS,f4]
   have hbl:∀ b:ByteArray,(⟨(Lib.itoa v).toArray⟩:ByteArray)=b↔Lib.itoa v=b.data.toList:=fun b=>by
    constructor
    ·rintro rfl; rfl
    ·intro h; apply ByteArray.ext; rw [h]
   refine zD (fun g1=>?_) (fun g1=>?_)
   ·have g1':¬ Lib.itoa v=w.data.toList:=fun h=>by
     rw [(hbl w).2 h] at g1; simp at g1
    have hpn:pNum w=none:=by unfold pNum; rw [hv]; simp only [if_neg g1']
    have:=hno (hnum.2 hpn)
    rw [hnum.2 hpn,Bool.false_and] at hK
    simp -dsimp only [go_sem,gS,f4]
    refine vL [true,true] ?_
    simp -dsimp only [go_sem,gS,f4]
    exact zB (vQ (by simp only [hpS,eq_self,implies_true,f4])) (zC this)
   ·have g1':Lib.itoa v=w.data.toList:=(hbl w).1 (by simpa using g1)
    have hpn:pNum w=some v:=by unfold pNum; rw [hv]; simp only [if_pos g1']
    have hri:=hnum.1 v hpn
    rw [hri] at hK
    simp only [Bool.true_and] at hK
    have ok:(decide (m=s.size) || !zG2 s m)=true→K (.tup [.d (Tok.d ⟨3,w,v⟩),.d (.bool true)]) H:=fun h=>by
     have:=hK ⟨3,w,v⟩ (fun _=>rfl)
     rw [h] at this
     exact this
    have no:(decide (m=s.size) || !zG2 s m)=false→K (.tup [.d (Tok.d ⟨0,⟨#[]⟩,0⟩),.d (.bool false)]) H:=fun h=>by
     have:=hK ⟨0,⟨#[]⟩,0⟩ (fun h2=>by rw [h] at h2; cases h2)
     rw [h] at this
     exact this
    have hti:decide ((m:Int) < (s.size:Int))=decide (m < s.size):=by congr 1; exact propext (by omega)
    simp -dsimp only [go_sem,gS,g1,f4,w5]
    refine zD (fun g2=>?_) (fun g2=>?_)
    ·have g2':m < s.size:=by have:=of_decide_eq_true g2; omega
     obtain ⟨x,hx⟩:=zHI g2'
     have hla:zG2 s m=uG x:=by unfold zG2; rw [hx]
     have hdm:=hnd x hx
     have hne:decide (m=s.size)=false:=decide_eq_false (by omega)
     simp -dsimp only [go_sem,gS,g2,hx,w5,f4]
     refine zDz _ x _ ?_
     rw [hdm,Bool.or_false]
     cases hl:uG x with
     | true =>
      simp -dsimp only [go_sem,gS,f4]
      refine vL [true,true] ?_
      simp -dsimp only [go_sem,gS,f4]
      exact zB (vQ (by simp only [hpS,eq_self,implies_true,f4])) (zC (no (by rw [hne,hla,hl]; rfl)))
     | false =>
      simp -dsimp only [go_sem,gS,f4]
      refine vL [true,true] ?_
      simp -dsimp only [go_sem,gS,f4]
      exact zB (vQ (by simp only [hpS,eq_self,implies_true,f4])) (zC (ok (by rw [hne,hla,hl]; rfl)))
    ·have g2':m=s.size:=by have:=of_decide_eq_false g2; omega
     simp -dsimp only [go_sem,gS,g2,f4]
     refine vL [true,true] ?_
     simp -dsimp only [go_sem,gS,f4]
     exact zB (vQ (by simp only [hpS,eq_self,implies_true,f4])) (zC (ok (by rw [decide_eq_true g2']; rfl)))
  ·have hpn:pNum w=none:=by
    unfold pNum
    cases ha:Lib.atoiAll w.data.toList with
    | ok v=>exact absurd ha (hv v)
    | _=>rfl
   have:=hno (hnum.2 hpn)
   rw [hnum.2 hpn,Bool.false_and] at hK
   simp -dsimp only [go_sem,gS,f4]
   refine vL [true,true] ?_
   simp -dsimp only [go_sem,gS,f4]
   exact zB (vQ (by simp only [hpS,eq_self,implies_true,f4])) (zC this)
theorem zXF (s:ByteArray) (p:Nat) (c:UInt8) (hc:s[p]?=some c):Lib.hasPrefix (s.data.toList.drop p) [58,45]=(decide ((c.toNat:Int)=58) && (decide (p+1 < s.size) && uN s (p+1) 45)):=by
 rw [zFV (by rw [←qK]; exact hc)]
 unfold Lib.hasPrefix uN
 have e58:(58 == c)=decide ((c.toNat:Int)=58):=by
  rw [Bool.eq_iff_iff]; simp only [beq_iff_eq,decide_eq_true_eq]
  constructor
  ·rintro rfl; rfl
  ·intro h; exact (UInt8.toNat_inj.1 (by show c.toNat=58; omega)).symm
 cases h2:s[p+1]? with
 | none =>
  have hn:¬ p+1 < s.size:=fun h=>by obtain ⟨x,hx⟩:=zHI h; rw [hx] at h2; cases h2
  have:s.data.toList.drop (p+1)=[]:=List.drop_eq_nil_iff.2 (by simp only [Array.length_toList]; show s.size≤p+1; omega)
  rw [this]
  simp [List.isPrefixOf]
 | some x =>
  have hlt:=zAZ h2
  rw [zFV (by rw [←qK]; exact h2)]
  have e45:(45 == x)=decide ((x.toNat:Int)=45):=by
   rw [Bool.eq_iff_iff]; simp only [beq_iff_eq,decide_eq_true_eq]
   constructor
   ·rintro rfl; rfl
   ·intro h; exact (UInt8.toNat_inj.1 (by show x.toNat=45; omega)).symm
  simp only [List.isPrefixOf,e58,e45,decide_eq_true hlt,Bool.true_and,Bool.and_true]
theorem zJG:∀ n:Fin 256,decide ((0:Int)≤Lib.indexByte [40,41,44,46,59,124,61] (UInt8.ofNat n.val))=kMarks.contains n.val:=by decide +kernel
theorem zTP (c:UInt8):decide ((0:Int)≤Lib.indexByte [40,41,44,46,59,124,61] c)=kMarks.contains c.toNat:=by
 have:=zJG ⟨c.toNat,c.toNat_lt⟩
 rwa [zGs] at this
theorem zOr {s:ByteArray} {p:Nat} {c:UInt8} (h:uG c=true):wV s p c=zBp s p c:=by rw [wV,if_pos h]
theorem zLt {s:ByteArray} {p:Nat} {c:UInt8} (h:uG c=false) (h2:isDig c=true∨(c.toNat:Int)=45):wV s p c=kP s p:=by rw [wV,if_neg (by rw [h]; exact Bool.false_ne_true),if_pos h2]
theorem zOs {s:ByteArray} {p:Nat} {c:UInt8} (h:uG c=false) (h2:¬ (isDig c=true∨(c.toNat:Int)=45)) (h3:(c.toNat:Int)=58∧p+1 < s.size∧uN s (p+1) 45=true):wV s p c=(⟨4,⟨#[58,45]⟩,0⟩,true):=by
 rw [wV,if_neg (by rw [h]; exact Bool.false_ne_true),if_neg h2,if_pos h3]
theorem zJM {s:ByteArray} {p:Nat} {c:UInt8} (h:uG c=false) (h2:¬ (isDig c=true∨(c.toNat:Int)=45)) (h3:¬ ((c.toNat:Int)=58∧p+1 < s.size∧uN s (p+1) 45=true)) :
  wV s p c=if kMarks.contains c.toNat=true then (⟨4,s.extract p (p+1),0⟩,true) else (⟨0,⟨#[]⟩,0⟩,false):=by
 rw [wV,if_neg (by rw [h]; exact Bool.false_ne_true),if_neg h2,if_neg h3]
set_option maxHeartbeats 4000000 in
theorem zON {eb:EbG} [TabM eb] [On eb 8] [On eb 9] (H:Heap) (s:ByteArray) (p:Nat) (c:UInt8) (hs:s.size≤16384) (hc:s[p]?=some c) (K:A→Heap→Prop)
  (hK:∀ t,((wV s p c).2=true→t=(wV s p c).1)→K (.tup [.d t.d,.d (.bool (wV s p c).2)]) H):ACall Tryz.prog (zK eb) 126 [.d (.str s),.d (.int .i64 p)] H K:=by
 have hlt:=zAZ hc
 have hp0:p≤s.size:=Nat.le_of_lt hlt
 have hw:=qT (k:=p) (by omega)
 have hle:=zIL c
 have cl:zH Tryz.prog 137=true:=by kernel_rfl
 have pn:(zK eb).pan 137=false:=by kernel_rfl
 have hq:zKg eb 137 (fun c=>uG c || isDig c):=fun H c K hK=>zDz H c K hK
 obtain ⟨hm1,hm2⟩:=zEV (q:=fun c=>uG c || isDig c) (s:=s) (n:=p) hp0
 refine ACall.hp_start ?_
 refine ACall.by mixed zXx (by simp) ?_
 conv in s126=>cbv
 refine zG ?_
 simp -dsimp only [go_sem,gS]
 refine yI (fun b4 f4=>?_)
 simp only [zN,zU] at f4
 simp -dsimp only [go_sem,gS,hc,hlt,f4]
 generalize hM:uE (fun c=>uG c || isDig c) s p=m at hm1 hm2
 have w2:IntKind.i64.wrap ((p:Int)+((m - p:Nat):Int))=(m:Int):=by rw [jP (by omega) (by omega)]; omega
 have hsz:(s.extract p m).size=m - p:=by simp; omega
 refine (fun (key:uG c=true→(?T:Prop))=>?main) ?rest
 case main =>
  refine zJe _ c _ ?_
  cases h1:uB c with
  | true =>
   simp -dsimp only [go_sem,gS,f4]
   exact key (by rw [hle,h1,Bool.true_or])
  | false =>
   simp -dsimp only [go_sem,gS,f4]
   refine zFX _ c _ ?_
   cases h2:zA8 c with
   | true =>
    simp -dsimp only [go_sem,gS,f4]
    exact key (by rw [hle,h2,Bool.or_true])
   | false =>
    have hl:uG c=false:=by rw [hle,h1,h2]; rfl
    clear key
    simp -dsimp only [go_sem,gS,f4]
    refine zD5 _ c _ ?_
    refine (fun (key:(isDig c=true∨(c.toNat:Int)=45)→(?T2:Prop))=>?main2) ?rest2
    case main2 =>
     cases h3:isDig c with
     | true =>
      simp -dsimp only [go_sem,gS,f4]
      exact key (.inl h3)
     | false =>
      simp -dsimp only [go_sem,gS,f4]
      refine zD (fun h4=>?_) (fun h4=>?_)
      ·simp -dsimp only [go_sem,gS,f4,h4]
       exact key (.inr (of_decide_eq_true h4))
      ·have hn:¬ (isDig c=true∨(c.toNat:Int)=45):=fun h=>by
        rw [h3] at h
        rcases h with h | h
        ·cases h
        ·exact of_decide_eq_false h4 h
       clear key
       simp -dsimp only [go_sem,gS,f4,h4,hp0]
       refine zGQ _ _ _ _ ?_
       rw [zC5,show (ByteArray.mk #[58,45]).data.toList=[58,45] from rfl,zXF s p c hc]
       simp -dsimp only [go_sem,gS,f4]
       cases h5:(decide ((c.toNat:Int)=58) && (decide (p+1 < s.size) && uN s (p+1) 45)) with
       | true =>
        have h6:(c.toNat:Int)=58∧p+1 < s.size∧uN s (p+1) 45=true:=by simpa using h5
        rw [zOs hl hn h6] at hK
        simp -dsimp only [go_sem,gS,f4]
        refine vL [true,true] ?_
        simp -dsimp only [go_sem,gS,f4]
        exact zB (vQ (by simp only [hpS,eq_self,implies_true,f4])) (zC (hK _ (fun _=>rfl)))
       | false =>
        have h6:¬ ((c.toNat:Int)=58∧p+1 < s.size∧uN s (p+1) 45=true):=fun h=>by
         have:(decide ((c.toNat:Int)=58) && (decide (p+1 < s.size) && uN s (p+1) 45))=true:=by simpa using h
         rw [h5] at this; cases this
        rw [zJM hl hn h6] at hK
        simp -dsimp only [go_sem,gS,f4]
        refine zCd _ _ _ _ ?_
        rw [show (ByteArray.mk #[40,41,44,46,59,124,61]).data.toList=[40,41,44,46,59,124,61] from rfl,show ((c.toNat:Int).toNat.toUInt8)=c by simp]
        have hmk:=zTP c
        generalize Lib.indexByte [40,41,44,46,59,124,61] c=ix at hmk ⊢
        simp -dsimp only [go_sem,gS,f4]
        refine zD (fun h7=>?_) (fun h7=>?_)
        ·rw [←hmk,h7,if_pos rfl] at hK
         have a1:p≤p+1:=Nat.le_succ p
         have a2:p+1≤s.size:=hlt
         simp -dsimp only [go_sem,gS,f4,hw,a1,a2]
         refine vL [true,true] ?_
         simp -dsimp only [go_sem,gS,f4]
         exact zB (vQ (by simp only [hpS,eq_self,implies_true,f4])) (zC (hK _ (fun _=>rfl)))
        ·rw [←hmk,h7,if_neg Bool.false_ne_true] at hK
         simp -dsimp only [go_sem,gS,f4]
         refine vL [true,true] ?_
         simp -dsimp only [go_sem,gS,f4]
         exact zB (vQ (by simp only [hpS,eq_self,implies_true,f4])) (zC (hK _ (fun _=>rfl)))
    case rest2 =>
     intro hd
     rw [zLt hl hd] at hK
     refine zKT _ s p c hs hc hd _ (fun t ht=>?_)
     simp -dsimp only [go_sem,gS,f4,Tok.d,Tok.cs]
     refine vL [true,true] ?_
     simp -dsimp only [go_sem,gS,f4]
     exact zB (vQ (by simp only [hpS,eq_self,implies_true,f4])) (zC (hK t ht))
 case rest =>
  intro hl
  rw [zOr hl] at hK
  have hwa:zBp s p c=(⟨if uB c=true then 1 else 2,s.extract p m,0⟩,decide (m - p≤32)):=by unfold zBp; rw [zAp,hM]
  rw [hwa] at hK
  refine zIf _ s p _ _ hs hp0 hq cl pn _ ?_
  rw [hM]
  simp -dsimp only [go_sem,gS,f4,w2,hm1,hm2]
  refine zFX _ c _ ?_
  have hexc:zA8 c=!uB c:=by
   rw [hle] at hl
   cases h1:uB c with
   | false=>rw [h1,Bool.false_or] at hl; rw [hl]; rfl
   | true =>
    simp only [uB,Bool.and_eq_true,decide_eq_true_eq] at h1
    simp only [zA8,Bool.not_true,Bool.or_eq_false_iff,Bool.and_eq_false_iff,decide_eq_false_iff_not]
    omega
  rw [hexc]
  have w6:decide (((m - p:Nat):Int)≤32)=decide (m - p≤32):=by congr 1; exact propext (by omega)
  cases h1:uB c with
  | true =>
   rw [h1,if_pos rfl] at hK
   simp -dsimp only [go_sem,gS,f4,hsz,w6]
   refine vL [true,true] ?_
   simp -dsimp only [go_sem,gS,f4]
   exact zB (vQ (by simp only [hpS,eq_self,implies_true,f4])) (zC (hK _ (fun _=>rfl)))
  | false =>
   rw [h1,if_neg Bool.false_ne_true] at hK
   simp -dsimp only [go_sem,gS,f4,hsz,w6]
   refine vL [true,true] ?_
   simp -dsimp only [go_sem,gS,f4]
   exact zB (vQ (by simp only [hpS,eq_self,implies_true,f4])) (zC (hK _ (fun _=>rfl)))
end Go.Aug

/- The program's lexer: the tokens of a text. -/
namespace Go.Aug
open Go.Proofs
set_option maxRecDepth 100000
set_option linter.unusedSimpArgs false
attribute [local irreducible] hid andK letA zR wN xX yH xR xE wR idxA ldV ldD addO xD appTo wF slA srcK nilQ retW gif sgd yT svc sops xQ yX aopO xT yU aBin aUn wK aLen zL yW zI yG xC yF yZ zJ zM yV zX yE xG xU frzM putE newK newV wP ACall xH wD zW sret cnd szs nilC yK zQ yA
attribute [local go_sem] Int.natCast_zero
set_option maxHeartbeats 2000000 in
theorem zP6 {eb:EbG} (H R:Heap) (b b6 n:Nat) (o6:AObj) (t:Tok) (ts:List Tok) (a:A) (hacc:Acc H [b] 50 3 (ts.map Tok.d) a R) (hl:ts.length≤16384) (e6:eqn b6 b=false∧eqn b b6=false∧R b6=none) (K:A→Heap→Prop)
  (hK:∀ a' R',Acc H [b] 50 3 ((ts++[t]).map Tok.d) a' R'→R' b6=none→K (.d (.bool true)) (hp R' [(b,.var [a']),(b6,o6)])) :
  ACall Tryz.prog (zK eb) 109 [.d (.int .i64 n),.d t.d,.ref b 0] (hp R [(b,.var [a]),(b6,o6)]) K:=by
 have hone:=hacc.one
 refine ACall.by mixed zXm (by simp) ?_
 conv in s109=>cbv
 refine zG ?_
 simp -dsimp only [go_sem,gS,e6,Tok.d,Tok.cs]
 refine yI (fun b4 f4=>?_)
 simp only [zN,zU] at f4
 simp -dsimp only [go_sem,gS,e6,f4,hone]
 refine vD (fun b8 v8 f8 w8=>?_)
 simp only [zN,zU] at f8
 simp -dsimp only [go_sem,gS,e6,f4,f8,hone]
 refine hacc.appTo (by simp only [hpS,eq_self,implies_true,e6,f4,f8]) (by simp only [hpS,eq_self,implies_true,e6]) (by simp only [List.length_map,List.length_cons,List.length_nil]; omega) (fun a' R' hacc' hn=>?_)
 have hone':=hacc'.one
 have e6':=hn b6 (by simp only [hpS,eq_self,implies_true,e6,f4,f8]) e6.2.2
 have f4':=hn b4 (by simp only [hpS,eq_self,implies_true,e6,f4,f8]) f4.2.2.2.2
 have f8':=hn b8 (by simp only [hpS,eq_self,implies_true,e6,f4,f8]) f8.2.2.2.2.2.2
 rw [show ts.map Tok.d++[D.agg [.int .i64 t.kind,.str t.text,.int .i64 t.int]]=(ts++[t]).map Tok.d by simp [Tok.d,Tok.cs]] at hacc'
 simp -dsimp only [go_sem,gS,e6,f4,f8,hone']
 refine zB (G:=hp R' [(b,.var [a']),(b6,o6)]) (yM (by simp only [hpS,eq_self,implies_true,e6,e6',f4,f4',f8,f8']) (by simp only [hpS,eq_self,implies_true,e6,e6',f4,f4',f8,f8'])) (zC (hK a' R' hacc' e6'))
structure LexX where
 p:Nat
 ts:List Tok
 a:A
 R:Heap
set_option maxHeartbeats 4000000 in
theorem zPP {eb:EbG} [TabM eb] [On eb 8] [On eb 9] (H:Heap) (b:Nat) (s:ByteArray) (hs:s.size≤16384) (hb:H b=some (.var [.nils])) (K:A→Heap→Prop)
  (hK:∀ a R,Acc H [b] 50 3 ((toks s 0 false []).1.map Tok.d) a R→K (.d (.bool (toks s 0 false []).2)) (hp R [(b,.var [a])])):ACall Tryz.prog (zK eb) 108 [.d (.str s),.func 109 [.ref b 0]] H K:=by
 have cl:zH Tryz.prog 109=true:=by kernel_rfl
 have pn:(zK eb).pan 109=false:=by kernel_rfl
 refine ACall.hp_in hb ?_
 refine ACall.by mixed zXl (by simp) ?_
 conv in s108=>cbv
 refine zG ?_
 simp -dsimp only [go_sem,gS]
 refine zLJ _ s 0 hs (Nat.zero_le _) _ (fun p0 ⟨q1,q2,q3,q4⟩=>?_)
 generalize hres:toks s 0 false []=res at hK
 simp -dsimp only [go_sem,gS]
 refine yP (X:=LexX) (fun x=>[(0,.d (.str s)),(1,.func 109 [.ref b 0]),(5,.d (.int .i64 x.p))])
  (fun x G=>G=hp x.R [(b,.var [x.a])]∧Acc H [b] 50 3 (x.ts.map Tok.d) x.a x.R∧toks s x.p false x.ts=res∧x.p≤s.size∧(∀ c,s[x.p]?=some c→vC c=false∧¬ (c.toNat:Int)=37)∧x.ts.length≤x.p)
  (fun x=>s.size - x.p) ⟨p0,[],.nils,H⟩ _ ⟨rfl,Acc.nils ..,by simp only; rw [←q3]; exact hres,q2,q4,by simp⟩ (by simp -dsimp only [go_sem,gS]) (.refl _) ?_
 rintro ⟨p,ts,a,R⟩ G ⟨rfl,hacc,hrun,hp1,hnb,hlen⟩
 simp only at hacc hrun hp1 hnb hlen
 have hone:=hacc.one
 simp -dsimp only [go_sem,gS]
 refine zD (fun h1=>?_) (fun h1=>?_)
 ·have h1':p < s.size:=by have:=of_decide_eq_true h1; omega
  obtain ⟨c,hc⟩:=zHI h1'
  obtain ⟨n1,n2⟩:=hnb c hc
  have hst:=zAq (cm:=false) (ts:=ts) hc
  rw [if_neg Bool.false_ne_true,if_neg (by rw [n1]; exact Bool.false_ne_true),if_neg n2] at hst
  rw [hst] at hrun
  simp -dsimp only [go_sem,gS]
  refine zON _ s p c hs hc _ (fun t ht=>?_)
  have hsz:=zAG hc
  simp -dsimp only [go_sem,gS,Tok.d,Tok.cs]
  refine yI (fun b6 f6=>?_)
  simp only [zN,zU] at f6
  simp -dsimp only [go_sem,gS,f6]
  cases hok:(wV s p c).2 with
  | false =>
   rw [hok,if_neg Bool.false_ne_true] at hrun
   rw [←hrun] at hK
   simp -dsimp only [go_sem,gS,f6]
   refine zB (G:=hp R [(b,.var [a])]) (yM (by simp only [hpS,eq_self,implies_true,f6]) (by simp only [hpS,eq_self,implies_true,f6])) (zC (hK a R hacc))
  | true =>
   rw [if_pos hok,←ht hok] at hrun
   have hsz:=hsz hok
   rw [←ht hok] at hsz
   simp -dsimp only [go_sem,gS,f6,cl,pn]
   refine zP6 H R b b6 p _ t ts a hacc (by omega) (by simp only [hpS,eq_self,implies_true,f6]) _ (fun a' R' hacc' f6'=>?_)
   have hone':=hacc'.one
   have hw:IntKind.i64.wrap ((p:Int)+(t.text.size:Int))=((p+t.text.size:Nat):Int):=by rw [jP (by omega) (by omega)]; omega
   simp -dsimp only [go_sem,gS,f6,hw]
   refine zLJ _ s (p+t.text.size) hs hsz.2 _ (fun p2 ⟨r1,r2,r3,r4⟩=>?_)
   simp -dsimp only [go_sem,gS,f6]
   refine zP ⟨p2,ts++[t],a',R'⟩ _ ⟨rfl,hacc',by rw [←r3]; exact hrun,r2,r4,by simp; omega⟩ (by simp only; omega) (by simp -dsimp only [go_sem,gS]) (yM (by simp only [hpS,eq_self,implies_true,f6,f6']) (by simp only [hpS,eq_self,implies_true,f6,f6']))
 ·have h1':s.size≤p:=by have:=of_decide_eq_false h1; omega
  rw [zGu h1'] at hrun
  rw [←hrun] at hK
  simp -dsimp only [go_sem,gS]
  exact zC (hK a R hacc)
set_option maxHeartbeats 2000000 in
theorem zP7 {eb:EbG} [Errs eb] [TabM eb] [On eb 8] [On eb 9]:zSp eb:=by
 intro H s K hK
 rw [zLB] at hK
 refine ACall.hp_start ?_
 refine ACall.by mixed fn65 (by simp) ?_
 conv in s65=>cbv
 refine zG ?_
 simp -dsimp only [go_sem,gS]
 refine zD (fun h1=>?_) (fun h1=>?_)
 ·have h1':16384 < s.size:=by have:=of_decide_eq_true h1; omega
  rw [if_pos h1'] at hK
  simp -dsimp only [go_sem,gS,vP inferInstance]
  refine vL [true,true] ?_
  simp -dsimp only [go_sem,gS]
  exact zC hK
 ·have h1':¬ 16384 < s.size:=by have:=of_decide_eq_false h1; omega
  rw [if_neg h1'] at hK
  simp -dsimp only [go_sem,gS,h1]
  refine yI (fun b4 f4=>?_)
  simp only [zN,zU] at f4
  simp -dsimp only [go_sem,gS,f4]
  refine zPP _ b4 s (by omega) (by simp only [hpS,eq_self,implies_true,f4]) _ (fun a R hacc=>?_)
  have h0:LeH H R:=(vQ (l:=[(b4,.var [.nils])]) (by simp only [hpS,eq_self,implies_true,f4])).trans hacc.le
  have hone:=hacc.one
  cases h2:(toks s 0 false []).2 with
  | false =>
   rw [h2,if_neg Bool.false_ne_true] at hK
   simp -dsimp only [go_sem,gS,f4,vP inferInstance]
   refine vL [true,true] ?_
   simp -dsimp only [go_sem,gS]
   exact zB (zAt h0 (by simp only [hpS,eq_self,implies_true,f4])) (zC hK)
  | true =>
   rw [h2,if_pos rfl] at hK
   simp -dsimp only [go_sem,gS,f4,hone]
   refine vL [true,true] ?_
   simp -dsimp only [go_sem,gS,f4]
   refine hacc.deep (by simp only [hpS,eq_self,implies_true,f4]) (fun R' hle' hn'=>?_)
   simp -dsimp only [go_sem,gS,f4]
   exact zB (zAt ((vQ (l:=[(b4,.var [.nils])]) (by simp only [hpS,eq_self,implies_true,f4])).trans hle') (by simp only [hpS,eq_self,implies_true,f4])) (zC hK)
end Go.Aug

/- The program's parser: Source, Term, Goal; the laws' example. -/
namespace Go.Aug
open Go.Proofs
set_option maxRecDepth 100000
set_option linter.unusedSimpArgs false
attribute [local irreducible] hid andK letA zR wN xX yH xR xE wR idxA ldV ldD addO xD appTo wF slA srcK nilQ retW gif sgd yT svc sops xQ yX aopO xT yU aBin aUn wK aLen zL yW zI yG xC yF yZ zJ zM yV zX yE xG xU frzM putE newK newV wP ACall xH wD zW sret cnd szs nilC yK zQ yA
attribute [local go_sem] Int.natCast_zero
def rpS (s:ByteArray):List It×Int:=qD (rlex s).1 (rlex s).2
theorem zQV (s:ByteArray):zEO (fun l=>wW l (l.length+1) []) (fun is=>.slice (is.map It.d)) (.slice []) s=(.slice ((rpS s).1.map It.d),(rpS s).2):=by
 unfold zEO rpS qD; simp only; split <;> rfl
class Envs (eb:EbG):Prop where
 a:Errs eb
 b:TabM eb
 c:On eb 8
 d:On eb 9
instance {eb:EbG} [h:Envs eb]:Errs eb:=h.a
instance {eb:EbG} [h:Envs eb]:TabM eb:=h.b
instance {eb:EbG} [h:Envs eb]:On eb 8:=h.c
instance {eb:EbG} [h:Envs eb]:On eb 9:=h.d
theorem zEm {eb:EbG} [Envs eb] (H:Heap) (s:ByteArray) (K:A→Heap→Prop) (hK:K (.tup [.d (.slice ((rpS s).1.map It.d)),.d (errD (rpS s).2)]) H):ACall Tryz.prog (zK eb) 9 [.d (.str s)] H K:=by
 refine ACall.by mixed fn9 (by simp) ?_
 conv in s9=>cbv
 refine zG ?_
 simp -dsimp only [go_sem,gS]
 refine zLR zP7 s _ _ ?_
 rw [zQV]
 simp -dsimp only [go_sem,gS]
 exact zC hK
end Go.Aug
