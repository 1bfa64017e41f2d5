/- Forms, their bytes and tokens, lexed and read back; no conditions but those in each theorem. -/
import Derived.Test.YthldjffimcngaaaGreatDoorPiecesOne
import Derived.Test.YthldjffimcngaaaGreatDoorGrammarOne
import Derived.Lib.Join
import Derived.Test.YthldjffimcngaaaGreatDoorAugFour
set_option linter.all false
set_option linter.unusedVariables false
set_option linter.unusedSimpArgs false
set_option linter.unusedSectionVars false

/- Plain: forms of terms, types, goals: their bytes, their tokens, and that the bytes are lexed as the tokens. -/
namespace Go.Aug
set_option maxRecDepth 100000
set_option linter.unusedSimpArgs false
set_option linter.unusedVariables false
def IsTk (t:Tok):Prop:=∃ c w,zA2 t c w
def Soft (r:List UInt8):Prop:=∀ x,r.head?=some x→isWd x=false
def LexP (bs:List UInt8) (ts:List Tok):Prop:=∀ rest tr,Soft rest→Lexed false rest tr→Lexed false (bs++rest) (ts++tr)
theorem vA {c:UInt8} {r:List UInt8} (h:isWd c=false):Soft (c::r):=fun x hx=>by cases hx; exact h
theorem LexP.nil:LexP [] []:=fun _ _ _ h=>h
theorem LexP.app {a b:List UInt8} {ta tb:List Tok} (ha:LexP a ta) (hb:LexP b tb) (h:∀ r,Soft r→Soft (b++r)):LexP (a++b) (ta++tb):=fun r tr hr hl=>by
 rw [List.append_assoc,List.append_assoc]
 exact ha _ _ (h r hr) (hb r tr hr hl)
theorem LexP.sp {b:List UInt8} {tb:List Tok} (hb:LexP b tb):LexP (32::b) tb:=fun r tr hr hl=>.blank (c:=32) (by decide) (hb r tr hr hl)
theorem LexP.tok {t:Tok} {c:UInt8} {w:List UInt8} (h:zA2 t c w):LexP (c::w) [t]:=fun r tr hr hl=>.tok h (.inr hr) hl
theorem LexP.mark {t:Tok} {c:UInt8} {w b:List UInt8} {tb:List Tok} (h:zA2 t c w) (h4:t.kind=4) (hb:LexP b tb):LexP ((c::w)++b) (t::tb):=fun r tr hr hl=>by
 rw [List.append_assoc]
 exact .tok h (.inl h4) (hb r tr hr hl)
theorem kT {t:Tok} (h:IsTk t):LexP t.text.data.toList [t]:=by
 obtain ⟨c,w,h⟩:=h
 rw [show t.text.data.toList=c::w by rw [h.text]]
 exact .tok h
theorem zEi {c:UInt8} (hb:vC c=false) (h37:¬ (c.toNat:Int)=37) (hl:uG c=false) (hd:isDig c=false) (h45:¬ (c.toNat:Int)=45) (h58:¬ (c.toNat:Int)=58) (hm:kMarks.contains c.toNat=true):zA2 ⟨4,⟨#[c]⟩,0⟩ c [] :=
 ⟨rfl,hb,h37,fun s p r hs _=>by
  unfold wV
  have e:=uR (a:=[c]) hs
  simp only [List.length_cons,List.length_nil,Nat.zero_add] at e
  rw [if_neg (by rw [hl]; exact Bool.false_ne_true),if_neg (by rw [hd]; intro hh; rcases hh with hh | hh; cases hh; exact h45 hh),if_neg (fun hh=>h58 hh.1),if_pos hm,e]⟩
theorem zRj {c:UInt8} {w:List UInt8} (hc:uG c=true) (hw:∀ x ∈ w,isWd x=true) (hn:w.length+1≤32):zA2 ⟨if uB c=true then 1 else 2,⟨⟨c::w⟩⟩,0⟩ c w:=by
 have h3:65≤(c.toNat:Int):=by
  simp only [uG,uB,Bool.or_eq_true,Bool.and_eq_true,decide_eq_true_eq] at hc
  omega
 refine ⟨rfl,by simp [vC]; omega,by omega,fun s p r hs hr=>?_⟩
 have hr':∀ x,r.head?=some x→isWd x=false:=by
  rcases hr with hr | hr
  ·simp only at hr; split at hr <;> cases hr
  ·exact hr
 unfold wV
 rw [if_pos hc,zBp]
 have hsz:w.length+1≤s.size:=by
  have:=congrArg List.length hs
  simp only [List.length_drop,List.length_append,List.length_cons,Array.length_toList] at this
  show w.length+1≤s.data.size
  omega
 have e:=zDH (q:=fun c=>uG c || isDig c) (s:=s) (c::w) r s.size p hs (fun x hx=>by
  rcases List.mem_cons.1 hx with rfl | hx
  ·simp [hc]
  ·exact hw x hx) hr' (by simpa using hsz)
 rw [e,uR hs]
 congr 1
 simp only [List.length_cons,decide_eq_true_eq]
 omega
theorem zP2 {c:UInt8} {w:List UInt8} (hc:uB c=true) (hw:(w.all isWd)=true) (hn:w.length+1≤32):zA2 ⟨1,⟨⟨c::w⟩⟩,0⟩ c w:=by
 have:=zRj (c:=c) (w:=w) (by simp [uG,hc]) (fun x hx=>List.all_eq_true.1 hw x hx) hn
 rwa [if_pos hc] at this
theorem zXJ:zA2 ⟨4,kIf,0⟩ 58 [45]:=⟨rfl,by decide,by decide,fun s p r hs _=>by
 have hb1:=zFc (zAz (a:=[58]) hs)
 unfold wV
 rw [if_neg (by decide),if_neg (by decide),if_pos ⟨by decide,hb1.2,by simp only [uN]; rw [show p+1=p+[(58:UInt8)].length from rfl,hb1.1]; decide⟩]
 rfl⟩
def zB0:Tok:=⟨4,⟨#[59]⟩,0⟩
def zHv:Tok:=⟨4,⟨#[61]⟩,0⟩
def zBn:Tok:=⟨4,⟨#[124]⟩,0⟩
def zJ9:Tok:=⟨4,kIf,0⟩
theorem zMM:zA2 wU 44 []:=zEi (by decide) (by decide) (by decide) (by decide) (by decide) (by decide) (by decide)
theorem zQ2:zA2 zB0 59 []:=zEi (by decide) (by decide) (by decide) (by decide) (by decide) (by decide) (by decide)
theorem zS9:zA2 zHv 61 []:=zEi (by decide) (by decide) (by decide) (by decide) (by decide) (by decide) (by decide)
theorem zSO:zA2 zBn 124 []:=zEi (by decide) (by decide) (by decide) (by decide) (by decide) (by decide) (by decide)
theorem zS7:zA2 zAK 46 []:=zEi (by decide) (by decide) (by decide) (by decide) (by decide) (by decide) (by decide)
def zAW (m:Tok):List (List Tok)→List Tok
 | []=>[]
 | w::l=>m::(w++zAW m l)
def zCf (m:Tok):List (List Tok)→List Tok
 | []=>[]
 | w::l=>w++zAW m l
def rowT:List (List UInt8)→List UInt8
 | []=>[]
 | w::l=>40::(Lib.join (w::l) [44,32]++[41])
def qC:List (List Tok)→List Tok
 | []=>[]
 | w::l=>tokOpen::(zCf wU (w::l)++[vE])
inductive LexL:List (List UInt8)→List (List Tok)→Prop
 | nil:LexL [] []
 | cons {a:List UInt8} {t:List Tok} {l:List (List UInt8)} {k:List (List Tok)} (h:LexP a t) (r:LexL l k):LexL (a::l) (t::k)
theorem zF3 (sep x:List UInt8) (r:List (List UInt8)):Lib.joinTail sep (x::r)=sep++(x++Lib.joinTail sep r):=by simp [Lib.joinTail]
theorem LexL.tail {sep:List UInt8} {m:Tok} (hs:∀ {b tb},LexP b tb→LexP (sep++b) (m::tb)) (hf:∀ r,Soft (sep++r)) {ws:List (List UInt8)} {ks:List (List Tok)} (h:LexL ws ks):LexP (Lib.joinTail sep ws) (zAW m ks)∧∀ r,Soft r→Soft (Lib.joinTail sep ws++r):=by
 induction h with
 | nil=>exact ⟨.nil,fun r hr=>hr⟩
 | cons h _ ih =>
  rw [zF3,zAW]
  exact ⟨hs (h.app ih.1 ih.2),fun r _=>by rw [List.append_assoc]; exact hf _⟩
theorem LexL.join {sep:List UInt8} {m:Tok} (hs:∀ {b tb},LexP b tb→LexP (sep++b) (m::tb)) (hf:∀ r,Soft (sep++r)) {ws:List (List UInt8)} {ks:List (List Tok)} (h:LexL ws ks):LexP (Lib.join ws sep) (zCf m ks):=by
 cases h with
 | nil=>exact .nil
 | cons h r =>
  rw [Lib.join_cons,zCf]
  exact h.app (r.tail hs hf).1 (r.tail hs hf).2
theorem zHp {b:List UInt8} {tb:List Tok} (h:LexP b tb):LexP ([44,32]++b) (wU::tb):=.mark (w:=[]) zMM rfl h.sp
theorem zFI (r:List UInt8):Soft ([44,32]++r):=vA (by decide)
theorem zOF {b:List UInt8} {tb:List Tok} (h:LexP b tb):LexP ([32,59,32]++b) (zB0::tb):=.sp (.mark (w:=[]) zQ2 rfl h.sp)
theorem zLK (r:List UInt8):Soft ([32,59,32]++r):=vA (by decide)
theorem zQ3 {b:List UInt8} {tb:List Tok} (h:LexP b tb):LexP ([32,124,32]++b) (zBn::tb):=.sp (.mark (w:=[]) zSO rfl h.sp)
theorem zOG (r:List UInt8):Soft ([32,124,32]++r):=vA (by decide)
theorem zGG:LexP [41] [vE]:=.mark (w:=[]) (b:=[]) zIo rfl .nil
theorem LexL.row {ws:List (List UInt8)} {ks:List (List Tok)} (h:LexL ws ks):LexP (rowT ws) (qC ks)∧∀ r,Soft r→Soft (rowT ws++r):=by
 cases h with
 | nil=>exact ⟨.nil,fun r hr=>hr⟩
 | cons h r=>exact ⟨.mark (w:=[]) zFL rfl ((LexL.cons h r).join zHp zFI |>.app zGG (fun _ _=>vA (by decide))),fun _ _=>vA (by decide)⟩
def zHT (i:Int):ByteArray:=⟨(Lib.itoa i).toArray⟩
mutual
def Tm.t:Tm→List UInt8
 | .mk k n i args=>(if k=2 then Lib.itoa i else n.data.toList)++rowT (Tm.ts args)
def Tm.ts:List Tm→List (List UInt8)
 | []=>[]
 | t::l=>t.t::Tm.ts l
end
mutual
def Tm.toks:Tm→List Tok
 | .mk k n i args=>(if k=2 then ⟨3,zHT i,i⟩ else if k=1 then ⟨2,n,0⟩ else ⟨1,n,0⟩)::qC (Tm.tokss args)
def Tm.tokss:List Tm→List (List Tok)
 | []=>[]
 | t::l=>t.toks::Tm.tokss l
end
mutual
def Tm.good:Nat→Tm→Prop
 | d,.mk k n i args=>d≤64∧((k=1∧IsTk ⟨2,n,0⟩∧i=0∧args=[])∨(k=2∧n=⟨#[]⟩∧IsTk ⟨3,zHT i,i⟩∧args=[])∨(k=3∧i=0∧IsTk ⟨1,n,0⟩∧xF n=false∧args.length≤8∧Tm.goods (d+1) args))
def Tm.goods:Nat→List Tm→Prop
 | _,[]=>True
 | d,t::l=>t.good d∧Tm.goods d l
end
theorem Tm.goods_mem {d:Nat}:∀ {l:List Tm},Tm.goods d l→∀ t ∈ l,t.good d
 | _::_,h,_,.head _=>h.1
 | _::_,h,t,.tail _ ht=>Tm.goods_mem h.2 t ht
theorem Tm.goods_of {d:Nat}:∀ {l:List Tm},(∀ t ∈ l,t.good d)→Tm.goods d l
 | [],_=>trivial
 | t::l,h=>⟨h t (.head _),Tm.goods_of fun x hx=>h x (.tail _ hx)⟩
mutual
theorem Tm.lex:∀ (t:Tm) (d:Nat),t.good d→LexP t.t t.toks
 | .mk k n i args,d,⟨_,h⟩=>by
  rw [Tm.t,Tm.toks]
  rcases h with ⟨rfl,h1,rfl,rfl⟩ | ⟨rfl,rfl,h1,rfl⟩ | ⟨rfl,rfl,h1,_,_,h2⟩
  ·rw [if_neg (by decide),if_neg (by decide),if_pos rfl]
   simpa [Tm.ts,Tm.tokss,rowT,qC] using kT h1
  ·rw [if_pos rfl,if_pos rfl]
   have:=kT h1
   simpa [Tm.ts,Tm.tokss,rowT,qC,zHT] using this
  ·rw [if_neg (by decide),if_neg (by decide),if_neg (by decide)]
   have hr:=(Tm.lexs args (d+1) h2).row
   exact (kT h1).app hr.1 hr.2
theorem Tm.lexs:∀ (l:List Tm) (d:Nat),Tm.goods d l→LexL (Tm.ts l) (Tm.tokss l)
 | [],_,_=>.nil
 | t::l,d,⟨h1,h2⟩=>.cons (Tm.lex t d h1) (Tm.lexs l d h2)
end
mutual
def Ty.t:Ty→List UInt8
 | .mk _ n args=>n.data.toList++rowT (Ty.ts args)
def Ty.ts:List Ty→List (List UInt8)
 | []=>[]
 | t::l=>t.t::Ty.ts l
end
mutual
def Ty.toks:Ty→List Tok
 | .mk v n args=>(if v=true then ⟨2,n,0⟩ else ⟨1,n,0⟩)::qC (Ty.tokss args)
def Ty.tokss:List Ty→List (List Tok)
 | []=>[]
 | t::l=>t.toks::Ty.tokss l
end
mutual
def Ty.good:Nat→Ty→Prop
 | d,.mk v n args=>d≤64∧((v=true∧IsTk ⟨2,n,0⟩∧args=[])∨(v=false∧n=kInt∧args=[])∨(v=false∧IsTk ⟨1,n,0⟩∧xF n=false∧args.length≤8∧Ty.goods (d+1) args))
def Ty.goods:Nat→List Ty→Prop
 | _,[]=>True
 | d,t::l=>t.good d∧Ty.goods d l
end
theorem Ty.goods_mem {d:Nat}:∀ {l:List Ty},Ty.goods d l→∀ t ∈ l,t.good d
 | _::_,h,_,.head _=>h.1
 | _::_,h,t,.tail _ ht=>Ty.goods_mem h.2 t ht
theorem Ty.goods_of {d:Nat}:∀ {l:List Ty},(∀ t ∈ l,t.good d)→Ty.goods d l
 | [],_=>trivial
 | t::l,h=>⟨h t (.head _),Ty.goods_of fun x hx=>h x (.tail _ hx)⟩
theorem zTk:zA2 ⟨1,kInt,0⟩ 105 [110,116]:=zP2 (by decide) (by decide) (by decide)
mutual
theorem Ty.lex:∀ (t:Ty) (d:Nat),t.good d→LexP t.t t.toks
 | .mk v n args,d,⟨_,h⟩=>by
  rw [Ty.t,Ty.toks]
  rcases h with ⟨rfl,h1,rfl⟩ | ⟨rfl,rfl,rfl⟩ | ⟨rfl,h1,_,_,h2⟩
  ·rw [if_pos rfl]
   simpa [Ty.ts,Ty.tokss,rowT,qC] using kT h1
  ·rw [if_neg (by decide)]
   have:=kT ⟨_,_,zTk⟩
   simpa [Ty.ts,Ty.tokss,rowT,qC] using this
  ·rw [if_neg (by decide)]
   have hr:=(Ty.lexs args (d+1) h2).row
   exact (kT h1).app hr.1 hr.2
theorem Ty.lexs:∀ (l:List Ty) (d:Nat),Ty.goods d l→LexL (Ty.ts l) (Ty.tokss l)
 | [],_,_=>.nil
 | t::l,d,⟨h1,h2⟩=>.cons (Ty.lex t d h1) (Ty.lexs l d h2)
end
def Gl.kind:Gl→Int
 | .mk k .. => k
def loose (kind k:Int):Bool:=k == 6 || k == 5 && kind != 6
def brT (b:Bool) (s:List UInt8):List UInt8:=if b then 40::(s++[41]) else s
def brK (b:Bool) (s:List Tok):List Tok:=if b then tokOpen::(s++[vE]) else s
def kw (w:ByteArray):Tok:=⟨1,w,0⟩
mutual
def Gl.t:Gl→List UInt8
 | .mk k a b n args gs =>
  if k=1 then [116,114,117,101] else if k=2 then [102,97,105,108] else if k=3 then a.t++[32,61,32]++b.t else if k=4 then n.data.toList++rowT (Tm.ts args)
  else if k=5 then Lib.join (Gl.ws k gs) [44,32] else if k=6 then Lib.join (Gl.ws k gs) [32,59,32]
  else if k=7 then [110,111,116,32]++(Gl.ws k gs).getD 0 [] else if k=8 then [116,104,114,111,119,32]++a.t
  else if k=9 then [116,114,121,32]++(Gl.ws k gs).getD 0 []++[32,99,97,116,99,104,32]++n.data.toList++[32,116,104,101,110,32]++(Gl.ws k gs).getD 1 [] else []
def Gl.ws:Int→List Gl→List (List UInt8)
 | _,[]=>[]
 | k,g::gs=>brT (loose k g.kind) g.t::Gl.ws k gs
end
mutual
def Gl.toks:Gl→List Tok
 | .mk k a b n args gs =>
  if k=1 then [kw kX] else if k=2 then [kw kU] else if k=3 then a.toks++zHv::b.toks else if k=4 then kw n::qC (Tm.tokss args)
  else if k=5 then zCf wU (Gl.ks k gs) else if k=6 then zCf zB0 (Gl.ks k gs)
  else if k=7 then kw kNot::(Gl.ks k gs).getD 0 [] else if k=8 then kw vT::a.toks
  else if k=9 then kw kTry::((Gl.ks k gs).getD 0 []++kw vS::⟨2,n,0⟩::kw zAM::(Gl.ks k gs).getD 1 []) else []
def Gl.ks:Int→List Gl→List (List Tok)
 | _,[]=>[]
 | k,g::gs=>brK (loose k g.kind) g.toks::Gl.ks k gs
end
mutual
def Gl.good:Nat→Gl→Prop
 | d,.mk k a b n args gs =>
  (k=1∧d≤64∧a=.none∧b=.none∧n=⟨#[]⟩∧args=[]∧gs=[])∨(k=2∧d≤64∧a=.none∧b=.none∧n=⟨#[]⟩∧args=[]∧gs=[])
  ∨ (k=3∧d≤64∧a.good (d+1)∧b.good (d+1)∧n=⟨#[]⟩∧args=[]∧gs=[])∨(k=4∧d≤64∧a=.none∧b=.none∧(Tm.mk 3 n 0 args).good (d+1)∧gs=[])
  ∨ ((k=5∨k=6)∧a=.none∧b=.none∧n=⟨#[]⟩∧args=[]∧2≤gs.length∧Gl.goods k d gs)∨(k=7∧d≤64∧a=.none∧b=.none∧n=⟨#[]⟩∧args=[]∧gs.length=1∧Gl.goods k (d+1) gs)
  ∨ (k=8∧d≤64∧a.good (d+1)∧b=.none∧n=⟨#[]⟩∧args=[]∧gs=[])∨(k=9∧d≤64∧a=.none∧b=.none∧IsTk ⟨2,n,0⟩∧args=[]∧gs.length=2∧Gl.goods k (d+1) gs)
def Gl.goods:Int→Nat→List Gl→Prop
 | _,_,[]=>True
 | k,d,g::gs=>(if loose k g.kind=true then d≤64∧g.good (d+1) else g.good d)∧Gl.goods k d gs
end
theorem zSR {b:Bool} {s:List UInt8} {t:List Tok} (h:LexP s t):LexP (brT b s) (brK b t):=by
 cases b with
 | false=>exact h
 | true=>exact .mark (w:=[]) zFL rfl (h.app zGG (fun _ _=>vA (by decide)))
theorem zCg {c:UInt8} {w b:List UInt8} {tb:List Tok} (hc:uB c=true) (hw:(w.all isWd)=true) (hn:w.length+1≤32) (hb:LexP b tb):LexP ((c::w)++32::b) (⟨1,⟨⟨c::w⟩⟩,0⟩::tb) :=
 (LexP.tok (zP2 hc hw hn)).app hb.sp (fun _ _=>vA (by decide))
theorem zBb {c:UInt8} {w:List UInt8} (hc:uB c=true) (hw:(w.all isWd)=true) (hn:w.length+1≤32):LexP (c::w) [⟨1,⟨⟨c::w⟩⟩,0⟩]:=.tok (zP2 hc hw hn)
mutual
theorem Gl.lex:∀ (g:Gl) (d:Nat),g.good d→LexP g.t g.toks
 | .mk k a b n args gs,d,h=>by
  rw [Gl.t,Gl.toks]
  rcases h with ⟨rfl,_⟩ | ⟨rfl,_⟩ | ⟨rfl,_,ha,hb,_⟩ | ⟨rfl,_,_,_,hc,_⟩ | ⟨hk,_,_,_,_,_,hg⟩ | ⟨rfl,_,_,_,_,_,hl,hg⟩ | ⟨rfl,_,ha,_⟩ | ⟨rfl,_,_,_,hn,_,hl,hg⟩
  ·simp only [if_true]
   exact zBb (c:=116) (w:=[114,117,101]) (by decide) (by decide) (by decide)
  ·simp only [show ¬ (2:Int)=1 by decide,if_false,if_true]
   exact zBb (c:=102) (w:=[97,105,108]) (by decide) (by decide) (by decide)
  ·simp only [show ¬ (3:Int)=1 by decide,show ¬ (3:Int)=2 by decide,if_false,if_true]
   rw [List.append_assoc]
   exact (Tm.lex a _ ha).app (.sp (.mark (w:=[]) zS9 rfl (Tm.lex b _ hb).sp)) (fun _ _=>vA (by decide))
  ·simp only [show ¬ (4:Int)=1 by decide,show ¬ (4:Int)=2 by decide,show ¬ (4:Int)=3 by decide,if_false,if_true]
   have:=Tm.lex _ _ hc
   rw [Tm.t,Tm.toks,if_neg (by decide),if_neg (by decide),if_neg (by decide)] at this
   exact this
  ·rcases hk with rfl | rfl
   ·simp only [show ¬ (5:Int)=1 by decide,show ¬ (5:Int)=2 by decide,show ¬ (5:Int)=3 by decide,show ¬ (5:Int)=4 by decide,if_false,if_true]
    exact (Gl.lexs gs 5 d hg).join zHp zFI
   ·simp only [show ¬ (6:Int)=1 by decide,show ¬ (6:Int)=2 by decide,show ¬ (6:Int)=3 by decide,show ¬ (6:Int)=4 by decide,show ¬ (6:Int)=5 by decide,if_false,if_true]
    exact (Gl.lexs gs 6 d hg).join zOF zLK
  ·simp only [show ¬ (7:Int)=1 by decide,show ¬ (7:Int)=2 by decide,show ¬ (7:Int)=3 by decide,show ¬ (7:Int)=4 by decide,show ¬ (7:Int)=5 by decide,show ¬ (7:Int)=6 by decide,if_false,if_true]
   match gs,hl,Gl.lexs gs 7 (d+1) hg with
   | [g],_,.cons h _=>exact zCg (c:=110) (w:=[111,116]) (by decide) (by decide) (by decide) h
  ·simp only [show ¬ (8:Int)=1 by decide,show ¬ (8:Int)=2 by decide,show ¬ (8:Int)=3 by decide,show ¬ (8:Int)=4 by decide,show ¬ (8:Int)=5 by decide,show ¬ (8:Int)=6 by decide,show ¬ (8:Int)=7 by decide,if_false,if_true]
   exact zCg (c:=116) (w:=[104,114,111,119]) (by decide) (by decide) (by decide) (Tm.lex a _ ha)
  ·simp only [show ¬ (9:Int)=1 by decide,show ¬ (9:Int)=2 by decide,show ¬ (9:Int)=3 by decide,show ¬ (9:Int)=4 by decide,show ¬ (9:Int)=5 by decide,show ¬ (9:Int)=6 by decide,show ¬ (9:Int)=7 by decide,show ¬ (9:Int)=8 by decide,if_false,if_true]
   match gs,hl,Gl.lexs gs 9 (d+1) hg with
   | [g1,g2],_,.cons h1 (.cons h2 _) =>
    have e2:=zCg (c:=116) (w:=[104,101,110]) (by decide) (by decide) (by decide) h2
    have e3:=zCg (c:=99) (w:=[97,116,99,104]) (by decide) (by decide) (by decide) ((kT hn).app e2.sp (fun _ _=>vA (by decide)))
    have e4:=zCg (c:=116) (w:=[114,121]) (by decide) (by decide) (by decide) (h1.app e3.sp (fun _ _=>vA (by decide)))
    have hb:[116,114,121,32]++(Gl.ws 9 [g1,g2]).getD 0 []++[32,99,97,116,99,104,32]++n.data.toList++[32,116,104,101,110,32]++(Gl.ws 9 [g1,g2]).getD 1 []
      = [116,114,121]++32::(brT (loose 9 g1.kind) g1.t++32::([99,97,116,99,104]++32::(n.data.toList++32::([116,104,101,110]++32::brT (loose 9 g2.kind) g2.t)))):=by
     simp [Gl.ws]
    rw [hb]
    exact e4
theorem Gl.lexs:∀ (l:List Gl) (k:Int) (d:Nat),Gl.goods k d l→LexL (Gl.ws k l) (Gl.ks k l)
 | [],_,_,_=>.nil
 | g::l,k,d,⟨h1,h2⟩=>by
  refine .cons (zSR ?_) (Gl.lexs l k d h2)
  split at h1
  ·exact Gl.lex g _ h1.2
  ·exact Gl.lex g _ h1
end

theorem zRb {n:ByteArray} (h:IsTk ⟨1,n,0⟩):zIs n:=by
 obtain ⟨c,w,h⟩:=h
 have hw:=h.word ⟨⟨c::w⟩⟩ 0 [] (by simp) (.inr (fun x hx=>by cases hx))
 have hc:(⟨⟨c::w⟩⟩:ByteArray)[0]?=some c:=by rw [qK]; rfl
 have:=zJN hc (by rw [hw]) (by rw [hw])
 rw [hw] at this
 exact this
theorem zNf {n:ByteArray} (h:zIs n) {c:UInt8} {w:List UInt8} {m:ByteArray} (hm:m.data.toList=c::w) (hc:uB c=false):n≠m:=by
 rintro rfl
 obtain ⟨c',w',e,h1,_⟩:=h
 rw [hm] at e
 obtain ⟨rfl,_⟩:=List.cons.inj e
 rw [hc] at h1; cases h1
def kQ (b:List Tok):Prop:=∀ t r,b=t::r→¬ uH t ⟨#[40]⟩
def FolP (b:List Tok):Prop:=∀ t r,b=t::r→¬ uH t ⟨#[40]⟩∧¬ uH t kEq
def uW (m:ByteArray) (b:List Tok):Prop:=∀ t r,b=t::r→¬ uH t m
theorem FolP.op {b:List Tok} (h:FolP b):kQ b:=fun t r e=>(h t r e).1
theorem FolP.eq {b:List Tok} (h:FolP b):uW kEq b:=fun t r e=>(h t r e).2
theorem zA7 {t:Tok} {r:List Tok} (h1:¬ uH t ⟨#[40]⟩) (h2:¬ uH t kEq):FolP (t::r):=fun t' r' e=>by obtain ⟨rfl,_⟩:=List.cons.inj e; exact ⟨h1,h2⟩
theorem zBs {m:ByteArray} {t:Tok} {r:List Tok} (h:¬ uH t m):uW m (t::r):=fun t' r' e=>by obtain ⟨rfl,_⟩:=List.cons.inj e; exact h
theorem wI {t:Tok} {m:ByteArray} (h:t.text≠m):¬ uH t m:=fun hh=>h hh.1
theorem zIV {t:Tok} {m:ByteArray} (h:t.kind≠1) (h4:t.kind≠4):¬ uH t m:=fun hh=>hh.2.elim h h4
theorem Par.got0 {l b:List Tok} {m:ByteArray} (h:uW m b):Par l (rgot l m) b false b:=by
 cases b with
 | nil=>exact Par.gotEnd
 | cons t r=>exact Par.gotNo (h t r rfl)
theorem Par.seq {α β:Type} {l a b c:List Tok} {f:RdS→α×RdS} {g:RdS→β×RdS} {x:α} {y:β} (h1:Par l f a x b) (h2:Par l g b y c) (p:Nat) (hp:l.drop p=a):∃ q r,f ⟨p,0⟩=(x,⟨q,0⟩)∧g ⟨q,0⟩=(y,⟨r,0⟩)∧l.drop r=c:=by
 obtain ⟨q,e1,e2⟩:=h1 p hp
 obtain ⟨r,e3,e4⟩:=h2 q e2
 exact ⟨q,r,e1,e3,e4⟩
theorem zHu {m:Tok} (ks:List (List Tok)) (b:List Tok):∃ t r,zAW m ks++vE::b=t::r∧(t=m∨t=vE):=by
 cases ks with
 | nil=>exact ⟨_,_,rfl,.inr rfl⟩
 | cons w l=>exact ⟨_,_,rfl,.inl rfl⟩
theorem Tail.of {α:Type} {l:List Tok} {f:RdS→α×RdS} {tk:α→List Tok} (b:List Tok):∀ (ys:List α),(∀ y ∈ ys,∀ t r,(t=wU∨t=vE)→Par l f (tk y++t::r) y (t::r))→Tail l f (zAW wU (ys.map tk)++vE::b) ys b
 | [],_=>.close b
 | y::ys,h=>by
  obtain ⟨t,r,e,ht⟩:=zHu (m:=wU) (ys.map tk) b
  have h2:=Tail.of b ys fun x hx=>h x (.tail _ hx)
  rw [List.map_cons,zAW,List.cons_append,List.append_assoc]
  refine .comma (c:=zAW wU (ys.map tk)++vE::b) ?_ h2
  rw [e]
  exact h y (.head _) t r ht
theorem Par.rowOf {α:Type} {l:List Tok} {f:RdS→α×RdS} {tk:α→List Tok} {b:List Tok} (ys:List α) (h8:ys.length≤8) (h:∀ y ∈ ys,∀ t r,(t=wU∨t=vE)→Par l f (tk y++t::r) y (t::r)) (hb:kQ b):Par l (yC f l 10 []) (qC (ys.map tk)++b) ys b:=by
 cases ys with
 | nil =>
  show Par l (yC f l 10 []) b [] b
  intro p hp
  obtain ⟨q,e,hq⟩:=Par.got0 (l:=l) (m:=⟨#[40]⟩) (b:=b) hb p hp
  have e2:=zT (l:=l) (t:=⟨#[40]⟩) (s:=⟨p,0⟩) (by rw [e])
  refine ⟨p, ?_,hp⟩
  rw [e] at e2
  have e3:(⟨q,0⟩:RdS)=⟨p,0⟩:=e2
  simp only [yC,if_true,xK,List.length_nil,e,Bool.false_eq_true,if_false]
  rw [e3]
 | cons y ys =>
  obtain ⟨t,r,e,ht⟩:=zHu (m:=wU) (ys.map tk) b
  have h2:=Tail.of (l:=l) (f:=f) (tk:=tk) b ys fun x hx=>h x (.tail _ hx)
  have ea:qC ((y::ys).map tk)++b=tokOpen::(tk y++(zAW wU (ys.map tk)++vE::b)):=by simp [qC,zCf]
  rw [ea]
  refine Par.args (c:=zAW wU (ys.map tk)++vE::b) ?_ h2 (by simpa using h8)
  rw [e]
  exact h y (.head _) t r ht
theorem zAk {t:Tok} (h:t=wU∨t=vE):¬ uH t ⟨#[40]⟩:=by
 rcases h with rfl | rfl
 ·exact wI (by decide)
 ·exact wI (by decide)
theorem Tm.tokss_map:∀ l:List Tm,Tm.tokss l=l.map Tm.toks
 | []=>rfl
 | t::l=>by rw [Tm.tokss,Tm.tokss_map l]; rfl
theorem Ty.tokss_map:∀ l:List Ty,Ty.tokss l=l.map Ty.toks
 | []=>rfl
 | t::l=>by rw [Ty.tokss,Ty.tokss_map l]; rfl
theorem zCQ {l b:List Tok} {p:Nat} {t:Tok} (h:l.drop p=t::b):jW l p=t:=zAg (zBo h).1
theorem Tm.par_m {l:List Tok}:∀ (m:Nat) (t:Tm),t.nodes≤m→∀ (f d:Nat),67≤f+d→t.good d→∀ b,kQ b→Par l (yS f l d) (t.toks++b) t b
 | 0,.mk _ _ _ _,hm,_,_,_,_,_,_=>by simp only [Tm.nodes] at hm; omega
 | m+1,.mk k n i args,hm,f,d,hf,⟨hd,h⟩,b,hb=>by
  obtain ⟨f,rfl⟩:∃ g,f=g+1:=⟨f - 1,by omega⟩
  intro p hp
  have e0:=zGj (f:=f) (n:=d) (l:=l) (s:=⟨p,0⟩) rfl (by rw [qP hd])
  rw [e0]
  rw [Tm.toks] at hp
  rcases h with ⟨rfl,h1,rfl,rfl⟩ | ⟨rfl,rfl,h1,rfl⟩ | ⟨rfl,rfl,h1,h2,h8,h3⟩
  ·rw [if_neg (by decide),if_pos rfl] at hp
   simp only [Tm.tokss,qC,List.cons_append,List.nil_append] at hp
   simp only [zCQ hp,if_true]
   exact ⟨p+1,rfl,(zBo hp).2.2.2⟩
  ·rw [if_pos rfl] at hp
   simp only [Tm.tokss,qC,List.cons_append,List.nil_append] at hp
   simp only [zCQ hp,if_true]
   exact ⟨p+1,rfl,(zBo hp).2.2.2⟩
  ·rw [if_neg (by decide),if_neg (by decide),List.cons_append] at hp
   simp only [zCQ hp]
   obtain ⟨q,r,e1,e2,e3⟩:=Par.seq (Par.word (l:=l) (b:=qC (Tm.tokss args)++b) (t:=⟨1,n,0⟩) (k:=1) rfl (fun hh=>by have:=hh.2; rw [h2] at this; cases this))
    (by rw [Tm.tokss_map]; exact Par.rowOf (f:=yS f l (d+1)) args h8 (fun y hy t r ht=>Tm.par_m m y (by have:=Tm.nodess_mem hy; simp only [Tm.nodes] at hm; omega) f (d+1) (by omega) (Tm.goods_mem h3 y hy) _ (fun t' r' e=>by obtain ⟨rfl,_⟩:=List.cons.inj e; exact zAk ht)) hb) p hp
   refine ⟨r, ?_,e3⟩
   rw [e1]
   simp only [e2]
   rfl
theorem Tm.par {l:List Tok} (t:Tm) (f d:Nat) (hf:67≤f+d) (h:t.good d) (b:List Tok) (hb:kQ b):Par l (yS f l d) (t.toks++b) t b:=Tm.par_m _ t (Nat.le_refl _) f d hf h b hb
theorem Ty.par_m {l:List Tok}:∀ (m:Nat) (t:Ty),t.nodes≤m→∀ (f d:Nat),67≤f+d→t.good d→∀ b,kQ b→Par l (xN f l d) (t.toks++b) t b
 | 0,.mk _ _ _,hm,_,_,_,_,_,_=>by simp only [Ty.nodes] at hm; omega
 | m+1,.mk v n args,hm,f,d,hf,⟨hd,h⟩,b,hb=>by
  obtain ⟨f,rfl⟩:∃ g,f=g+1:=⟨f - 1,by omega⟩
  intro p hp
  have e0:=zGl (f:=f) (n:=d) (l:=l) (s:=⟨p,0⟩) rfl (by rw [qP hd])
  rw [e0]
  rw [Ty.toks] at hp
  rcases h with ⟨rfl,h1,rfl⟩ | ⟨rfl,rfl,rfl⟩ | ⟨rfl,h1,h2,h8,h3⟩
  ·rw [if_pos rfl] at hp
   simp only [Ty.tokss,qC,List.cons_append,List.nil_append] at hp
   simp only [zCQ hp,if_true]
   exact ⟨p+1,rfl,(zBo hp).2.2.2⟩
  ·rw [if_neg (by decide)] at hp
   simp only [Ty.tokss,qC,List.cons_append,List.nil_append] at hp
   obtain ⟨q,e1,e2⟩:=Par.got (l:=l) (b:=b) (t:=⟨1,kInt,0⟩) (m:=kInt) ⟨rfl,.inl rfl⟩ p hp
   simp only [zCQ hp,e1,if_true]
   exact ⟨q,rfl,e2⟩
  ·rw [if_neg (by decide),List.cons_append] at hp
   simp only [zCQ hp]
   have hno:(rgot l kInt ⟨p,0⟩).1=false:=by
    obtain ⟨q,e,_⟩:=Par.gotNo (l:=l) (t:=⟨1,n,0⟩) (m:=kInt) (fun hh=>by have:=hh.1; simp only at this; rw [this] at h2; revert h2; decide) p hp
    rw [e]
   obtain ⟨q,r,e1,e2,e3⟩:=Par.seq (Par.word (l:=l) (b:=qC (Ty.tokss args)++b) (t:=⟨1,n,0⟩) (k:=1) rfl (fun hh=>by have:=hh.2; rw [h2] at this; cases this))
    (by rw [Ty.tokss_map]; exact Par.rowOf (f:=xN f l (d+1)) args h8 (fun y hy t r ht=>Ty.par_m m y (by have:=Ty.nodess_mem hy; simp only [Ty.nodes] at hm; omega) f (d+1) (by omega) (Ty.goods_mem h3 y hy) _ (fun t' r' e=>by obtain ⟨rfl,_⟩:=List.cons.inj e; exact zAk ht)) hb) p hp
   refine ⟨r, ?_,e3⟩
   rw [hno,e1]
   simp only [e2]
   rfl
theorem Ty.par {l:List Tok} (t:Ty) (f d:Nat) (hf:67≤f+d) (h:t.good d) (b:List Tok) (hb:kQ b):Par l (xN f l d) (t.toks++b) t b:=Ty.par_m _ t (Nat.le_refl _) f d hf h b hb
inductive Joins (l:List Tok) (q:RdS→Gl×RdS) (m:Tok):List Tok→List Gl→List Tok→Prop
 | stop {b:List Tok} (h:uW m.text b):Joins l q m b [] b
 | more {a c b:List Tok} {x:Gl} {xs:List Gl} (h:Par l q a x c) (r:Joins l q m c xs b):Joins l q m (m::a) (x::xs) b
theorem zOB {l:List Tok} {q:RdS→Gl×RdS} {m:Tok} (h4:m.kind=4) {a:List Tok} {xs:List Gl} {b:List Tok} (h:Joins l q m a xs b):∀ (k:Nat) (gs:List Gl) (p:Nat),l.drop p=a→xs.length≤k→∃ r,jV q m.text l k gs ⟨p,0⟩=(gs++xs,⟨r,0⟩)∧l.drop r=b:=by
 induction h with
 | @stop b h =>
  intro k gs p hp _
  obtain ⟨r,e,_⟩:=Par.got0 (l:=l) h p hp
  refine ⟨p, ?_,hp⟩
  rw [zOA (by rw [e]),List.append_nil]
 | @more a c b x xs hx _ ih =>
  intro k gs p hp hk
  cases k with
  | zero=>simp at hk
  | succ k =>
   obtain ⟨q1,r1,e1,e2,e3⟩:=Par.seq (Par.got (l:=l) (b:=a) (t:=m) (m:=m.text) ⟨rfl,.inr h4⟩) hx p hp
   obtain ⟨r,e4,e5⟩:=ih k (gs++[x]) r1 e3 (by simpa using hk)
   refine ⟨r, ?_,e5⟩
   simp only [jV,e1,if_true,e2,e4]
   simp
theorem Par.joined {l:List Tok} {q:RdS→Gl×RdS} {m:Tok} (h4:m.kind=4) (kind:Int) {a c b:List Tok} {x:Gl} {xs:List Gl} (h:Par l q a x c) (r:Joins l q m c xs b) (hl:xs.length≤l.length):Par l (wC kind m.text q l) a (kR kind (x::xs)) b:=fun p hp=>by
 obtain ⟨p1,e1,e2⟩:=h p hp
 obtain ⟨p2,e3,e4⟩:=zOB h4 r l.length [x] p1 e2 hl
 refine ⟨p2, ?_,e4⟩
 simp only [wC,e1,e3]
 rfl
theorem zEY (m:Tok):∀ ks:List (List Tok),ks.length≤(zAW m ks).length
 | []=>Nat.le_refl _
 | w::l=>by have:=zEY m l; simp only [zAW,List.length_cons,List.length_append]; omega
theorem zIF {l a:List Tok} {p:Nat} (h:l.drop p=a):a.length≤l.length:=by rw [←h,List.length_drop]; omega
theorem Joins.of {l:List Tok} {q:RdS→Gl×RdS} {m:Tok} {tk:Gl→List Tok} {b:List Tok} (hb:uW m.text b) (Q:List Tok→Prop) (hQb:Q b) (hQm:∀ r,Q (m::r)):∀ (xs:List Gl),(∀ x ∈ xs,∀ c,Q c→Par l q (tk x++c) x c)→Joins l q m (zAW m (xs.map tk)++b) xs b∧Q (zAW m (xs.map tk)++b)
 | [],_=>⟨.stop hb,hQb⟩
 | x::xs,h=>by
  obtain ⟨h1,h2⟩:=Joins.of hb Q hQb hQm xs fun y hy=>h y (.tail _ hy)
  rw [List.map_cons,zAW,List.cons_append,List.append_assoc]
  exact ⟨.more (h x (.head _) _ h2) h1,hQm _⟩
theorem Par.row_goals {l:List Tok} {q:RdS→Gl×RdS} {m:Tok} (h4:m.kind=4) (kind:Int) {tk:Gl→List Tok} {b:List Tok} (hb:uW m.text b) (Q:List Tok→Prop) (hQb:Q b) (hQm:∀ r,Q (m::r)) (xs:List Gl) (hx:xs≠[]) (h:∀ x ∈ xs,∀ c,Q c→Par l q (tk x++c) x c) :
  Par l (wC kind m.text q l) (zCf m (xs.map tk)++b) (kR kind xs) b:=by
 cases xs with
 | nil=>exact absurd rfl hx
 | cons x xs =>
  obtain ⟨h1,h2⟩:=Joins.of hb Q hQb hQm xs fun y hy=>h y (.tail _ hy)
  intro p hp
  rw [List.map_cons,zCf,List.append_assoc] at hp
  refine Par.joined h4 kind (h x (.head _) _ h2) h1 ?_ p hp
  have:=zIF hp
  have h3:=zEY m (xs.map tk)
  simp only [List.length_append,List.length_map] at this h3
  omega
theorem zFC {f d p:Nat} {l b:List Tok} {t:Tok} (hd:d≤64) (hp:l.drop p=t::b) (h:∀ k ∈ [kX,kU,kNot,vT,kTry,kL],¬ uH t k):xP (f+1) l d ⟨p,0⟩=zBf f l d ⟨p,0⟩:=by
 have no:∀ k,k ∈ [kX,kU,kNot,vT,kTry,kL]→(rgot l k ⟨p,0⟩).1=false:=fun k hk=>by
  obtain ⟨q,e,_⟩:=Par.gotNo (l:=l) (b:=b) (h k hk) p hp
  rw [e]
 simp only [xP,qP (l:=l) (s:=⟨p,0⟩) hd,no kX (by simp),no kU (by simp),no kNot (by simp),no vT (by simp),no kTry (by simp),no kL (by simp),Bool.false_eq_true,if_false]
theorem zHZ {n:ByteArray} (h1:IsTk ⟨1,n,0⟩) (h2:xF n=false):∀ k ∈ [kX,kU,kNot,vT,kTry,kL],¬ uH ⟨1,n,0⟩ k:=fun k hk hh=>by
 have e:n=k:=hh.1
 subst e
 have h3:=zRb h1
 simp only [List.mem_cons,List.not_mem_nil,or_false] at hk
 rcases hk with rfl | rfl | rfl | rfl | rfl | rfl
 ·revert h2; decide
 ·revert h2; decide
 ·revert h2; decide
 ·revert h2; decide
 ·revert h2; decide
 ·exact zNf h3 (c:=40) (w:=[]) rfl (by decide) rfl
theorem Tm.first {t:Tm} {d:Nat} (h:t.good d):∃ t0 r,t.toks=t0::r∧∀ k ∈ [kX,kU,kNot,vT,kTry,kL],¬ uH t0 k:=by
 obtain ⟨k,n,i,args⟩:=t
 obtain ⟨_,h⟩:=h
 rw [Tm.toks]
 rcases h with ⟨rfl,_⟩ | ⟨rfl,_⟩ | ⟨rfl,rfl,h1,h2,_⟩
 ·rw [if_neg (by decide),if_pos rfl]
  exact ⟨_,_,rfl,fun k _=>zIV (show (2:Int)≠1 by decide) (show (2:Int)≠4 by decide)⟩
 ·rw [if_pos rfl]
  exact ⟨_,_,rfl,fun k _=>zIV (show (3:Int)≠1 by decide) (show (3:Int)≠4 by decide)⟩
 ·rw [if_neg (by decide),if_neg (by decide)]
  exact ⟨_,_,rfl,zHZ h1 h2⟩
theorem zGL (r:List Tok):kQ (zHv::r):=fun t r' e=>by obtain ⟨rfl,_⟩:=List.cons.inj e; exact wI (by decide)
structure AllPar (l:List Tok) (g:Gl):Prop where
 P:∀ f d,67≤f+d→g.good d→g.kind≠5→g.kind≠6→∀ b,FolP b→Par l (xP f l d) (g.toks++b) g b
 G:∀ f d,67≤f+d→g.good d→∀ b,FolP b→uW wM b→uW zAl b→Par l (zA1 f l d) (g.toks++b) g b
 I:∀ k,k≠6→∀ f d,67≤f+d→(if loose k g.kind=true then d≤64∧g.good (d+1) else g.good d)→∀ b,FolP b→Par l (xP f l d) (brK (loose k g.kind) g.toks++b) g b
 W:∀ f d,67≤f+d→(if loose 6 g.kind=true then d≤64∧g.good (d+1) else g.good d)→∀ b,FolP b→uW wM b→Par l (wC 5 wM (xP f l d) l) (brK (loose 6 g.kind) g.toks++b) g b
theorem Gl.ks_map (k:Int):∀ l:List Gl,Gl.ks k l=l.map fun g=>brK (loose k g.kind) g.toks
 | []=>rfl
 | g::l=>by rw [Gl.ks,Gl.ks_map k l]; rfl
theorem Gl.goods_mem {k:Int} {d:Nat}:∀ {l:List Gl},Gl.goods k d l→∀ g ∈ l,(if loose k g.kind=true then d≤64∧g.good (d+1) else g.good d)
 | _::_,h,_,.head _=>h.1
 | _::_,h,t,.tail _ ht=>Gl.goods_mem h.2 t ht
theorem Gl.goods_of {k:Int} {d:Nat}:∀ {l:List Gl},(∀ g ∈ l,(if loose k g.kind=true then d≤64∧g.good (d+1) else g.good d))→Gl.goods k d l
 | [],_=>trivial
 | t::l,h=>⟨h t (.head _),Gl.goods_of fun x hx=>h x (.tail _ hx)⟩
theorem zCL (kind:Int) {gs:List Gl} (h:2≤gs.length):kR kind gs=.mk kind .none .none ⟨#[]⟩ [] gs:=by rw [kR,if_neg (by omega)]
theorem zKy (r:List Tok):FolP (kw vS::r):=zA7 (wI (by decide)) (wI (by decide))
theorem zKA (r:List Tok):FolP (wU::r):=zA7 (wI (by decide)) (wI (by decide))
theorem zOE (r:List Tok):FolP (zB0::r):=zA7 (wI (by decide)) (wI (by decide))
theorem zKz (r:List Tok):FolP (vE::r):=zA7 (wI (by decide)) (wI (by decide))
theorem wY {w:ByteArray}:uH (kw w) w:=⟨rfl,.inl rfl⟩
theorem qJ {w m:ByteArray} (h:w≠m):¬ uH (kw w) m:=wI h
theorem zJ0 {f d p:Nat} {l b:List Tok} (hd:d≤64) (hp:l.drop p=kw kX::b):∃ q,xP (f+1) l d ⟨p,0⟩=(.mk 1 .none .none ⟨#[]⟩ [] [],⟨q,0⟩)∧l.drop q=b:=by
 obtain ⟨q,e,hq⟩:=Par.got (l:=l) (b:=b) (wY (w:=kX)) p hp
 exact ⟨q,by simp only [xP,qP (l:=l) (s:=⟨p,0⟩) hd,e,if_true],hq⟩
section
variable {f d p:Nat} {l b:List Tok}
theorem uO {t:Tok} {m:ByteArray} (hp:l.drop p=t::b) (h:¬ uH t m):(rgot l m ⟨p,0⟩).1=false:=by
 obtain ⟨q,e,_⟩:=Par.gotNo (l:=l) (b:=b) h p hp
 rw [e]
theorem zJY (hd:d≤64) (hp:l.drop p=kw kU::b):∃ q,xP (f+1) l d ⟨p,0⟩=(.mk 2 .none .none ⟨#[]⟩ [] [],⟨q,0⟩)∧l.drop q=b:=by
 obtain ⟨q,e,hq⟩:=Par.got (l:=l) (b:=b) (wY (w:=kU)) p hp
 exact ⟨q,by simp only [xP,qP (l:=l) (s:=⟨p,0⟩) hd,uO hp (qJ (w:=kU) (m:=kX) (by decide)),Bool.false_eq_true,if_false,e,if_true],hq⟩
theorem zLF {x:Gl} {c:List Tok} (hd:d≤64) (hx:Par l (xP f l (d+1)) b x c) (hp:l.drop p=kw kNot::b):∃ q,xP (f+1) l d ⟨p,0⟩=(.mk 7 .none .none ⟨#[]⟩ [] [x],⟨q,0⟩)∧l.drop q=c:=by
 obtain ⟨q,r,e,e2,hq⟩:=Par.seq (Par.got (l:=l) (b:=b) (wY (w:=kNot))) hx p hp
 exact ⟨r,by simp only [xP,qP (l:=l) (s:=⟨p,0⟩) hd,uO hp (qJ (w:=kNot) (m:=kX) (by decide)),uO hp (qJ (w:=kNot) (m:=kU) (by decide)),Bool.false_eq_true,if_false,e,e2,if_true],hq⟩
theorem zH9 {x:Tm} {c:List Tok} (hd:d≤64) (hx:Par l (yS f l (d+1)) b x c) (hp:l.drop p=kw vT::b):∃ q,xP (f+1) l d ⟨p,0⟩=(.mk 8 x .none ⟨#[]⟩ [] [],⟨q,0⟩)∧l.drop q=c:=by
 obtain ⟨q,r,e,e2,hq⟩:=Par.seq (Par.got (l:=l) (b:=b) (wY (w:=vT))) hx p hp
 exact ⟨r,by simp only [xP,qP (l:=l) (s:=⟨p,0⟩) hd,uO hp (qJ (w:=vT) (m:=kX) (by decide)),uO hp (qJ (w:=vT) (m:=kU) (by decide)),uO hp (qJ (w:=vT) (m:=kNot) (by decide)),Bool.false_eq_true,if_false,e,e2,if_true],hq⟩
theorem zLG {x y:Gl} {n:ByteArray} {a c:List Tok} (hd:d≤64) (hx:Par l (xP f l (d+1)) b x (kw vS::⟨2,n,0⟩::kw zAM::a)) (hy:Par l (xP f l (d+1)) a y c) (hp:l.drop p=kw kTry::b):∃ q,xP (f+1) l d ⟨p,0⟩=(.mk 9 .none .none n [] [x,y],⟨q,0⟩)∧l.drop q=c:=by
 obtain ⟨q,r,e,e2,hq⟩:=Par.seq (Par.got (l:=l) (b:=b) (wY (w:=kTry))) hx p hp
 obtain ⟨e3,h3⟩:=zAv (m:=vS) hq (wY)
 obtain ⟨q4,e4,h4⟩:=Par.word (l:=l) (b:=kw zAM::a) (t:=⟨2,n,0⟩) (k:=2) rfl (fun h=>by cases h.1) _ h3
 obtain ⟨e5,h5⟩:=zAv (m:=zAM) h4 (wY)
 obtain ⟨q6,e6,h6⟩:=hy _ h5
 refine ⟨q6, ?_,h6⟩
 simp only [xP,qP (l:=l) (s:=⟨p,0⟩) hd,uO hp (qJ (w:=kTry) (m:=kX) (by decide)),uO hp (qJ (w:=kTry) (m:=kU) (by decide)),uO hp (qJ (w:=kTry) (m:=kNot) (by decide)),uO hp (qJ (w:=kTry) (m:=vT) (by decide)),Bool.false_eq_true,if_false,e,if_true,rtry,e2,e3,e4,e5,e6]
theorem zFe {x:Gl} {c:List Tok} (hd:d≤64) (hx:Par l (zA1 f l (d+1)) b x (vE::c)) (hp:l.drop p=tokOpen::b):∃ q,xP (f+1) l d ⟨p,0⟩=(x,⟨q,0⟩)∧l.drop q=c:=by
 have hn:∀ k,tokOpen.text≠k→(rgot l k ⟨p,0⟩).1=false:=fun k hk=>uO hp (wI hk)
 obtain ⟨q,r,e,e2,hq⟩:=Par.seq (Par.got (l:=l) (b:=b) (t:=tokOpen) (m:=kL) ⟨rfl,.inr rfl⟩) hx p hp
 obtain ⟨e3,h3⟩:=zAv (m:=zBa) hq ⟨rfl,.inr rfl⟩
 refine ⟨r+1, ?_,h3⟩
 rw [zJZ hd (hn _ (by decide)) (hn _ (by decide)) (hn _ (by decide)) (hn _ (by decide)) (hn _ (by decide)) e,e2]
 simp only [e3]
end
theorem AllPar.of {l:List Tok}:∀ (g:Gl),(∀ x ∈ (match g with | .mk _ _ _ _ _ gs=>gs),AllPar l x)→AllPar l g
 | .mk k a b n args gs,ih=>by
  simp only at ih
  have hP:∀ f d,67≤f+d→(Gl.mk k a b n args gs).good d→k≠5→k≠6→∀ c,FolP c→Par l (xP f l d) ((Gl.mk k a b n args gs).toks++c) (.mk k a b n args gs) c:=by
   intro f d hf h h5 h6 c hc p hp
   rw [Gl.toks] at hp
   have hd:d≤64:=by
    rcases h with ⟨_,h,_⟩ | ⟨_,h,_⟩ | ⟨_,h,_⟩ | ⟨_,h,_⟩ | ⟨hk,_⟩ | ⟨_,h,_⟩ | ⟨_,h,_⟩ | ⟨_,h,_⟩
    all_goals first | exact h | skip
    rcases hk with rfl | rfl
    ·exact absurd rfl h5
    ·exact absurd rfl h6
   obtain ⟨f,rfl⟩:∃ g,f=g+1:=⟨f - 1,by omega⟩
   rcases h with ⟨rfl,_,rfl,rfl,rfl,rfl,rfl⟩ | ⟨rfl,_,rfl,rfl,rfl,rfl,rfl⟩ | ⟨rfl,_,ha,hb,rfl,rfl,rfl⟩ | ⟨rfl,_,rfl,rfl,hcl,rfl⟩ | ⟨hk,_⟩ | ⟨rfl,_,rfl,rfl,rfl,rfl,hl,hg⟩ | ⟨rfl,_,ha,rfl,rfl,rfl,rfl⟩ | ⟨rfl,_,rfl,rfl,hn,rfl,hl,hg⟩
   ·simp only [if_true] at hp
    exact zJ0 hd hp
   ·simp only [show ¬ (2:Int)=1 by decide,if_false,if_true] at hp
    exact zJY hd hp
   ·simp only [show ¬ (3:Int)=1 by decide,show ¬ (3:Int)=2 by decide,if_false,if_true,List.append_assoc,List.cons_append] at hp
    obtain ⟨t0,r,e0,hs⟩:=Tm.first ha
    rw [zFC hd (by rw [hp,e0]; rfl) hs]
    obtain ⟨q1,e1,h1⟩:=Tm.par (l:=l) a f (d+1) (by omega) ha _ (zGL (b.toks++c)) p hp
    obtain ⟨q2,q3,e2,e3,h3⟩:=Par.seq (Par.got (l:=l) (b:=b.toks++c) (t:=zHv) (m:=kEq) ⟨rfl,.inr rfl⟩) (Tm.par (l:=l) b f (d+1) (by omega) hb c hc.op) q1 h1
    exact ⟨q3,by simp only [zBf,e1,e2,if_true,e3],h3⟩
   ·simp only [show ¬ (4:Int)=1 by decide,show ¬ (4:Int)=2 by decide,show ¬ (4:Int)=3 by decide,if_false,if_true] at hp
    have ht:(Tm.mk 3 n 0 args).toks=kw n::qC (Tm.tokss args):=by rw [Tm.toks,if_neg (by decide),if_neg (by decide)]; rfl
    rw [←ht] at hp
    obtain ⟨t0,r,e0,hs⟩:=Tm.first hcl
    rw [zFC hd (by rw [hp,e0]; rfl) hs]
    obtain ⟨q1,e1,h1⟩:=Tm.par (l:=l) _ f (d+1) (by omega) hcl _ hc.op p hp
    obtain ⟨q2,e2,_⟩:=Par.got0 (l:=l) hc.eq q1 h1
    exact ⟨q1,by simp only [zBf,e1,e2,Bool.false_eq_true,if_false,Tm.kind,Tm.name,Tm.args,if_true],h1⟩
   ·rcases hk with rfl | rfl
    ·exact absurd rfl h5
    ·exact absurd rfl h6
   ·simp only [show ¬ (7:Int)=1 by decide,show ¬ (7:Int)=2 by decide,show ¬ (7:Int)=3 by decide,show ¬ (7:Int)=4 by decide,show ¬ (7:Int)=5 by decide,show ¬ (7:Int)=6 by decide,if_false,if_true] at hp
    match gs,hl,hg,ih with
    | [g],_,hg,ih =>
     exact zLF hd ((ih g (.head _)).I 7 (by decide) f (d+1) (by omega) hg.1 c hc) hp
   ·simp only [show ¬ (8:Int)=1 by decide,show ¬ (8:Int)=2 by decide,show ¬ (8:Int)=3 by decide,show ¬ (8:Int)=4 by decide,show ¬ (8:Int)=5 by decide,show ¬ (8:Int)=6 by decide,show ¬ (8:Int)=7 by decide,if_false,if_true] at hp
    exact zH9 hd (Tm.par (l:=l) a f (d+1) (by omega) ha c hc.op) hp
   ·simp only [show ¬ (9:Int)=1 by decide,show ¬ (9:Int)=2 by decide,show ¬ (9:Int)=3 by decide,show ¬ (9:Int)=4 by decide,show ¬ (9:Int)=5 by decide,show ¬ (9:Int)=6 by decide,show ¬ (9:Int)=7 by decide,show ¬ (9:Int)=8 by decide,if_false,if_true] at hp
    match gs,hl,hg,ih with
    | [g1,g2],_,hg,ih =>
     refine zLG (x:=g1) (y:=g2) (b:=brK (loose 9 g1.kind) g1.toks++(kw vS::⟨2,n,0⟩::kw zAM::(brK (loose 9 g2.kind) g2.toks++c))) hd ((ih g1 (.head _)).I 9 (by decide) f (d+1) (by omega) hg.1 _ (zKy _)) ((ih g2 (.tail _ (.head _))).I 9 (by decide) f (d+1) (by omega) hg.2.1 c hc) ?_
     rw [hp]; simp [Gl.ks]
  have h5:∀ f d,67≤f+d→(Gl.mk k a b n args gs).good d→k=5→∀ c,FolP c→uW wM c→Par l (wC 5 wM (xP f l d) l) ((Gl.mk k a b n args gs).toks++c) (.mk k a b n args gs) c:=by
   rintro f d hf h rfl c hc hn
   rcases h with ⟨hk,_⟩ | ⟨hk,_⟩ | ⟨hk,_⟩ | ⟨hk,_⟩ | ⟨_,rfl,rfl,rfl,rfl,hl,hg⟩ | ⟨hk,_⟩ | ⟨hk,_⟩ | ⟨hk,_⟩
   all_goals try (exact absurd hk (by decide))
   have et:(Gl.mk 5 .none .none ⟨#[]⟩ [] gs).toks=zCf wU (gs.map fun g=>brK (loose 5 g.kind) g.toks):=by rw [Gl.toks,if_neg (by decide),if_neg (by decide),if_neg (by decide),if_neg (by decide),if_pos rfl,Gl.ks_map]
   rw [et,←zCL 5 hl]
   exact Par.row_goals (m:=wU) rfl 5 hn FolP hc zKA gs (by intro e; rw [e] at hl; simp at hl) (fun x hx c' hc'=>(ih x hx).I 5 (by decide) f d hf (Gl.goods_mem hg x hx) c' hc')
  have hone:∀ f d,67≤f+d→(Gl.mk k a b n args gs).good d→k≠5→k≠6→∀ c,FolP c→uW wM c→Par l (wC 5 wM (xP f l d) l) ((Gl.mk k a b n args gs).toks++c) (.mk k a b n args gs) c:=by
   intro f d hf h k5 k6 c hc hn
   have:=Par.joined (l:=l) (m:=wU) rfl 5 (hP f d hf h k5 k6 c hc) (.stop hn) (Nat.zero_le _)
   rwa [show kR 5 [Gl.mk k a b n args gs]=.mk k a b n args gs from join_one 5 _] at this
  have hG:∀ f d,67≤f+d→(Gl.mk k a b n args gs).good d→∀ c,FolP c→uW wM c→uW zAl c→Par l (zA1 f l d) ((Gl.mk k a b n args gs).toks++c) (.mk k a b n args gs) c:=by
   intro f d hf h c hc hn hs p hp
   have er:zA1 f l d ⟨p,0⟩=wC 6 zAl (wC 5 wM (xP f l d) l) l ⟨p,0⟩:=zCU (vG l f d) rfl
   rw [er]
   have one:Par l (wC 5 wM (xP f l d) l) ((Gl.mk k a b n args gs).toks++c) (.mk k a b n args gs) c→∃ q,wC 6 zAl (wC 5 wM (xP f l d) l) l ⟨p,0⟩=(.mk k a b n args gs,⟨q,0⟩)∧l.drop q=c:=fun h1=>by
    have:=Par.joined (l:=l) (m:=zB0) rfl 6 h1 (.stop hs) (Nat.zero_le _) p hp
    rwa [show kR 6 [Gl.mk k a b n args gs]=.mk k a b n args gs from join_one 6 _] at this
   by_cases k5:k=5
   ·exact one (h5 f d hf h k5 c hc hn)
   ·by_cases k6:k=6
    ·subst k6
     rcases h with ⟨hk,_⟩ | ⟨hk,_⟩ | ⟨hk,_⟩ | ⟨hk,_⟩ | ⟨_,rfl,rfl,rfl,rfl,hl,hg⟩ | ⟨hk,_⟩ | ⟨hk,_⟩ | ⟨hk,_⟩
     all_goals try (exact absurd hk (by decide))
     have et:(Gl.mk 6 .none .none ⟨#[]⟩ [] gs).toks=zCf zB0 (gs.map fun g=>brK (loose 6 g.kind) g.toks):=by rw [Gl.toks,if_neg (by decide),if_neg (by decide),if_neg (by decide),if_neg (by decide),if_neg (by decide),if_pos rfl,Gl.ks_map]
     rw [et] at hp
     rw [←zCL 6 hl]
     exact Par.row_goals (m:=zB0) rfl 6 hs (fun c=>FolP c∧uW wM c) ⟨hc,hn⟩ (fun r=>⟨zOE r,zBs (wI (by decide))⟩) gs (by intro e; rw [e] at hl; simp at hl) (fun x hx c' hc'=>(ih x hx).W f d hf (Gl.goods_mem hg x hx) c' hc'.1 hc'.2) p hp
    ·exact one (hone f d hf h k5 k6 c hc hn)
  have hI:∀ k',k'≠6→∀ f d,67≤f+d→(if loose k' k=true then d≤64∧(Gl.mk k a b n args gs).good (d+1) else (Gl.mk k a b n args gs).good d)→∀ c,FolP c→Par l (xP f l d) (brK (loose k' k) (Gl.mk k a b n args gs).toks++c) (.mk k a b n args gs) c:=by
   intro k' hk' f d hf h c hc p hp
   cases hlo:loose k' k with
   | true =>
    rw [hlo,if_pos rfl] at h
    rw [hlo] at hp
    obtain ⟨f,rfl⟩:∃ g,f=g+1:=⟨f - 1,by omega⟩
    refine zFe (b:=(Gl.mk k a b n args gs).toks++vE::c) h.1 (hG f (d+1) (by omega) h.2 _ (zKz c) (zBs (wI (by decide))) (zBs (wI (by decide)))) ?_
    rw [hp]; simp [brK]
   | false =>
    rw [hlo,if_neg Bool.false_ne_true] at h
    rw [hlo] at hp
    have k5:k≠5:=by rintro rfl; revert hlo; simp [loose,hk']
    have k6:k≠6:=by rintro rfl; revert hlo; simp [loose]
    exact hP f d hf h k5 k6 c hc p hp
  refine ⟨hP,hG,hI, ?_⟩
  intro f d hf h c hc hn
  show Par l _ (brK (loose 6 k) (Gl.mk k a b n args gs).toks++c) _ _
  have h':(if loose 6 k=true then d≤64∧(Gl.mk k a b n args gs).good (d+1) else (Gl.mk k a b n args gs).good d):=h
  by_cases k6:k=6
  ·subst k6
   have:=Par.joined (l:=l) (m:=wU) rfl 5 (hI 5 (by decide) f d hf h' c hc) (.stop hn) (Nat.zero_le _)
   rwa [show kR 5 [Gl.mk 6 a b n args gs]=.mk 6 a b n args gs from join_one 5 _] at this
  ·have hlo:loose 6 k=false:=by simp [loose,k6]
   rw [hlo,if_neg Bool.false_ne_true] at h'
   rw [hlo]
   by_cases k5:k=5
   ·exact h5 f d hf h' k5 c hc hn
   ·exact hone f d hf h' k5 k6 c hc hn
theorem zOT (l:List Tok):∀ (m:Nat) (g:Gl),g.nodes≤m→AllPar l g
 | 0,g,h=>by have:=g.nodes_pos; omega
 | m+1,.mk k a b n args gs,h=>AllPar.of _ fun x hx=>zOT l m x (by
   have:=Gl.nodess_mem (show x ∈ gs from hx)
   simp only [Gl.nodes] at h
   have:=a.nodes_pos
   omega)
theorem Gl.par {l:List Tok} (g:Gl) {f d:Nat} (hf:67≤f+d) (h:g.good d) {b:List Tok} (h1:FolP b) (h2:uW wM b) (h3:uW zAl b):Par l (zA1 f l d) (g.toks++b) g b :=
 (zOT l _ g (Nat.le_refl _)).G f d hf h b h1 h2 h3
end Go.Aug

/- Plain: what the reader reads has a form that is read back. -/
namespace Go.Aug
set_option maxRecDepth 100000
set_option linter.unusedSimpArgs false
set_option linter.unusedVariables false
mutual
theorem Tm.mono:∀ (t:Tm) (d d':Nat),d≤d'→t.good d'→t.good d
 | .mk k n i args,d,d',hd,⟨h0,h⟩=>by
  refine ⟨by omega, ?_⟩
  rcases h with h | h | ⟨h1,h2,h3,h4,h5,h6⟩
  ·exact .inl h
  ·exact .inr (.inl h)
  ·exact .inr (.inr ⟨h1,h2,h3,h4,h5,Tm.monos args (d+1) (d'+1) (by omega) h6⟩)
theorem Tm.monos:∀ (l:List Tm) (d d':Nat),d≤d'→Tm.goods d' l→Tm.goods d l
 | [],_,_,_,_=>trivial
 | t::l,d,d',hd,⟨h1,h2⟩=>⟨Tm.mono t d d' hd h1,Tm.monos l d d' hd h2⟩
end
mutual
theorem Gl.mono:∀ (g:Gl) (d d':Nat),d≤d'→g.good d'→g.good d
 | .mk k a b n args gs,d,d',hd,h=>by
  rcases h with ⟨h1,h2,h⟩ | ⟨h1,h2,h⟩ | ⟨h1,h2,h3,h4,h⟩ | ⟨h1,h2,h3,h4,h5,h⟩ | ⟨h1,h2,h3,h4,h5,h6,h7⟩ | ⟨h1,h2,h3,h4,h5,h6,h7,h8⟩ | ⟨h1,h2,h3,h⟩ | ⟨h1,h2,h3,h4,h5,h6,h7,h8⟩
  ·exact .inl ⟨h1,by omega,h⟩
  ·exact .inr (.inl ⟨h1,by omega,h⟩)
  ·exact .inr (.inr (.inl ⟨h1,by omega,Tm.mono a _ _ (by omega) h3,Tm.mono b _ _ (by omega) h4,h⟩))
  ·exact .inr (.inr (.inr (.inl ⟨h1,by omega,h3,h4,Tm.mono _ _ _ (by omega) h5,h⟩)))
  ·exact .inr (.inr (.inr (.inr (.inl ⟨h1,h2,h3,h4,h5,h6,Gl.monos gs k d d' hd h7⟩))))
  ·exact .inr (.inr (.inr (.inr (.inr (.inl ⟨h1,by omega,h3,h4,h5,h6,h7,Gl.monos gs k (d+1) (d'+1) (by omega) h8⟩)))))
  ·exact .inr (.inr (.inr (.inr (.inr (.inr (.inl ⟨h1,by omega,Tm.mono a _ _ (by omega) h3,h⟩))))))
  ·exact .inr (.inr (.inr (.inr (.inr (.inr (.inr ⟨h1,by omega,h3,h4,h5,h6,h7,Gl.monos gs k (d+1) (d'+1) (by omega) h8⟩))))))
theorem Gl.monos:∀ (l:List Gl) (k:Int) (d d':Nat),d≤d'→Gl.goods k d' l→Gl.goods k d l
 | [],_,_,_,_,_=>trivial
 | g::l,k,d,d',hd,⟨h1,h2⟩=>by
  refine ⟨?_,Gl.monos l k d d' hd h2⟩
  split at h1
  ·rename_i hc
   rw [if_pos hc]
   exact ⟨by omega,Gl.mono g (d+1) (d'+1) (by omega) h1.2⟩
  ·rename_i hc
   rw [if_neg hc]
   exact Gl.mono g d d' hd h1
end
structure TkF (t:Tok):Prop where
 tk:IsTk t
 zero:t.kind=1∨t.kind=2→t.int=0
 num:t.kind=3→t.text=zHT t.int
theorem zTS {c:UInt8} {w:List UInt8} (hw:∀ x ∈ w,isDig x=true) (hd:isDig c=true∨(c.toNat:Int)=45) (h:(rInt ⟨⟨c::w⟩⟩).2=true):(⟨⟨c::w⟩⟩:ByteArray)=zHT (rInt ⟨⟨c::w⟩⟩).1:=by
 have two:(∀ n,pNum ⟨⟨c::w⟩⟩=some n→rInt ⟨⟨c::w⟩⟩=(n,true))∧(pNum ⟨⟨c::w⟩⟩=none→(rInt ⟨⟨c::w⟩⟩).2=false):=by
  rcases hd with hd | hd
  ·refine zIZ (fun x hx=>?_) (by simp)
   rcases List.mem_cons.1 (show x ∈ c::w from hx) with rfl | hx
   ·exact isDig_iff.1 hd
   ·exact isDig_iff.1 (hw x hx)
  ·have e:c=45:=UInt8.toNat_inj.1 (by show c.toNat=45; omega)
   subst e
   exact zIY (ds:=w) rfl (fun x hx=>isDig_iff.1 (hw x hx))
 cases hp:pNum ⟨⟨c::w⟩⟩ with
 | none=>rw [two.2 hp] at h; cases h
 | some n =>
  rw [two.1 n hp]
  unfold pNum at hp
  split at hp
  ·rename_i v hv
   split at hp
   ·rename_i hi
    cases hp
    unfold zHT
    rw [hi]
   ·cases hp
  ·cases hp
theorem zQO {s:ByteArray} {p:Nat} {c:UInt8} (hp:s[p]?=some c) (hb:vC c=false) (h37:¬ (c.toNat:Int)=37) (h:(wV s p c).2=true):TkF (wV s p c).1:=by
 obtain ⟨w,r,hs,ht,hr⟩:=zPl hp hb h37 h
 refine ⟨⟨c,w,ht⟩,fun hk=>?_,fun hk=>?_⟩
 ·unfold wV at hk ⊢
  by_cases hl:uG c=true
  ·rw [if_pos hl]; rfl
  ·rw [if_neg hl] at hk ⊢
   by_cases hd:isDig c=true∨(c.toNat:Int)=45
   ·rw [if_pos hd] at hk; rcases hk with hk | hk <;> cases hk
   ·rw [if_neg hd] at hk ⊢
    split
    ·rfl
    ·split <;> rfl
 ·have htx:=ht.text
  unfold wV at h hk htx ⊢
  by_cases hl:uG c=true
  ·rw [if_pos hl] at hk; simp only [zBp] at hk; split at hk <;> cases hk
  ·rw [if_neg hl] at h hk htx ⊢
   by_cases hd:isDig c=true∨(c.toNat:Int)=45
   ·rw [if_pos hd] at h hk htx ⊢
    simp only [kP] at h htx ⊢
    have hlt:=zAZ hp
    have hall:=zBl (q:=isDig) (s:=s) s.size (p+1) hlt
    have hle:=zAd (p:=isDig) (s:=s) s.size (p+1) hlt
    generalize uD isDig s s.size (p+1)=e at h htx hall hle ⊢
    rw [htx] at h ⊢
    obtain ⟨ha,_⟩:=Bool.and_eq_true_iff.1 h
    refine zTS (fun x hx=>?_) hd ha
    obtain ⟨i,hi⟩:=List.mem_iff_getElem?.1 hx
    have hil:=(List.getElem?_eq_some_iff.1 hi).1
    have hlen:(c::w).length=e - p:=by
     have:=congrArg ByteArray.size htx
     rw [ByteArray.size_extract] at this
     have e2:(⟨⟨c::w⟩⟩:ByteArray).size=(c::w).length:=rfl
     omega
    have hx2:s[p+(i+1)]?=some x:=by
     rw [qK,←List.getElem?_drop,hs,List.getElem?_append_left (by simp; omega),List.getElem?_cons_succ]; exact hi
    obtain ⟨y,hy,hq⟩:=hall (p+(i+1)) (by omega) (by simp at hlen; omega)
    rw [hx2] at hy; cases hy; exact hq
   ·rw [if_neg hd] at hk
    split at hk
    ·cases hk
    ·split at hk <;> cases hk
theorem zHa {s:ByteArray}:∀ (k p:Nat) (cm:Bool) (pl:List Int) (ts:List Tok),(∀ t ∈ ts,TkF t)→∀ t ∈ (rAll s k p cm pl ts).2.1,TkF t
 | 0,p,cm,pl,ts,h=>h
 | k+1,p,cm,pl,ts,h=>by
  simp only [rAll]
  cases hc:s[p]? with
  | none=>exact h
  | some c =>
   simp only
   by_cases h1:cm=true
   ·rw [if_pos h1]; exact zHa k _ _ _ _ h
   ·rw [if_neg h1]
    cases h2:vC c with
    | true=>rw [if_pos rfl]; exact zHa k _ _ _ _ h
    | false =>
     rw [if_neg Bool.false_ne_true]
     by_cases h3:(c.toNat:Int)=37
     ·rw [if_pos h3]; exact zHa k _ _ _ _ h
     ·rw [if_neg h3]
      by_cases h4:(wV s p c).2=true
      ·rw [if_pos h4]
       refine zHa k _ _ _ _ fun t ht=>?_
       rcases List.mem_append.1 ht with ht | ht
       ·exact h t ht
       ·rw [List.mem_singleton.1 ht]; exact zQO hc h2 h3 h4
      ·rw [if_neg h4]; exact h
def TkOk (l:List Tok):Prop:=∀ t ∈ l,TkF t
theorem zU4 (s:ByteArray):TkOk (rlex s).1:=by
 unfold TkOk rlex
 repeat' split
 ·intro _ h; cases h
 ·exact zHa _ _ _ _ _ (fun _ h=>by cases h)
 ·intro _ h; cases h
theorem TkOk.at_ {l:List Tok} (h:TkOk l) {p:Nat} {t:Tok} (ht:l[p]?=some t):TkF t:=h t (List.mem_of_getElem? ht)
theorem TkF.name {t:Tok} (h:TkF t) (hk:t.kind=1):IsTk ⟨1,t.text,0⟩:=by
 have h0:=h.zero (.inl hk)
 obtain ⟨k,x,i⟩:=t
 simp only at hk h0
 subst hk h0
 exact h.tk
theorem TkF.var {t:Tok} (h:TkF t) (hk:t.kind=2):IsTk ⟨2,t.text,0⟩:=by
 have h0:=h.zero (.inr hk)
 obtain ⟨k,x,i⟩:=t
 simp only at hk h0
 subst hk h0
 exact h.tk
theorem TkF.int3 {t:Tok} (h:TkF t) (hk:t.kind=3):IsTk ⟨3,zHT t.int,t.int⟩:=by
 have h0:=h.num hk
 obtain ⟨k,x,i⟩:=t
 simp only at hk h0
 subst hk h0
 exact h.tk
section
variable {l:List Tok} {s:RdS}
theorem zBm {k:Int} (h:(zS l k s).2.err=0):∃ t,l[s.pos]?=some t∧t.kind=k∧(k=1→xF t.text=false)∧(zS l k s).1=t.text:=by
 obtain ⟨he,_,hr⟩:=zBy h
 obtain ⟨_,_,x,hx⟩:=uK hr
 unfold zS at h ⊢
 rw [hr] at h ⊢
 simp only [Bool.false_eq_true,if_false,hx] at h ⊢
 split at h
 ·exact absurd h (vM (by decide) _)
 ·rename_i hc
  refine ⟨x,rfl, ?_,fun hk=>?_,by rw [if_neg hc]⟩
  ·apply Classical.byContradiction; intro hn; exact hc (.inl hn)
  ·cases hr2:xF x.text with
   | false=>rfl
   | true=>exact absurd (.inr ⟨hk,hr2⟩) hc
theorem qX {α:Type} {P:α→Prop} {q:RdS→α×RdS} (hq:∀ s,s.err=0→(q s).2.err=0→P (q s).1) (hend:∀ s,rend l s=true→(q s).2.err≠0):∀ (k:Nat) (xs:List α) (s:RdS),s.err=0→(yC q l k xs s).2.err=0→(∀ x ∈ xs,P x)→xs.length≤8→(∀ x ∈ (yC q l k xs s).1,P x)∧(yC q l k xs s).1.length≤8
 | 0,xs,s,_,_,h1,h2=>⟨h1,h2⟩
 | k+1,xs,s,he,h0,h1,h2=>by
  simp only [yC,if_pos he] at h0 ⊢
  cases hm:(xK l xs.length s).1 with
  | false=>simp only [Bool.false_eq_true,if_false]; exact ⟨h1,h2⟩
  | true =>
   simp only [hm,if_true] at h0 ⊢
   obtain ⟨r0,_,r8⟩:=zAf hm
   by_cases hqe:(q (xK l xs.length s).2).2.err=0
   ·have hn8:xs.length≠8:=fun h=>hend _ (r8 h) hqe
    refine qX hq hend k _ _ hqe h0 (fun x hx=>?_) (by simp only [List.length_append,List.length_cons,List.length_nil]; omega)
    rcases List.mem_append.1 hx with hx | hx
    ·exact h1 x hx
    ·rw [List.mem_singleton.1 hx]; exact hq _ r0 hqe
   ·rw [yJ hqe] at h0
    exact absurd h0 hqe
theorem zCY (hl:TkOk l):∀ (f d:Nat),d≤65→67≤f+d→∀ s:RdS,s.err=0→(yS f l d s).2.err=0→(yS f l d s).1.good d
 | 0,d,h1,h2=>by omega
 | f+1,d,h1,h2=>by
  intro s he h0
  cases hr:rend l s with
  | true=>exact absurd h0 (kJ (by omega) hr)
  | false =>
   obtain ⟨_,hlt,k,hk⟩:=uK hr
   have hd:d≤64:=by
    apply Classical.byContradiction; intro hn
    have e:=zF8 he (show 64 < d by omega) hlt
    rw [zJ2 (zPV e),e] at h0; cases h0
   have e0:=zGj (l:=l) (f:=f) (n:=d) he (by rw [qP hd]; exact he)
   rw [zAg hk] at e0
   rw [e0] at h0 ⊢
   have hF:=hl.at_ hk
   by_cases c2:k.kind=2
   ·rw [if_pos c2]
    exact ⟨hd,.inl ⟨rfl,hF.var c2,rfl,rfl⟩⟩
   ·rw [if_neg c2] at h0 ⊢
    by_cases c3:k.kind=3
    ·rw [if_pos c3]
     exact ⟨hd,.inr (.inl ⟨rfl,rfl,hF.int3 c3,rfl⟩)⟩
    ·rw [if_neg c3] at h0 ⊢
     by_cases hw:(zS l 1 s).2.err=0
     ·obtain ⟨t,ht,tk,tr,te⟩:=zBm hw
      obtain ⟨g1,g2⟩:=qX (P:=Tm.good (d+1)) (zCY hl f (d+1) (by omega) (by omega)) (fun s h=>kJ (by omega) h) 10 [] _ hw h0 (fun x hx=>by cases hx) (by simp)
      refine ⟨hd,.inr (.inr ⟨rfl,rfl, ?_, ?_,g2,Tm.goods_of g1⟩)⟩
      ·rw [te]; exact (hl.at_ ht).name tk
      ·rw [te]; exact tr rfl
     ·rw [yJ hw] at h0
      exact absurd h0 hw
theorem zCZ (hl:TkOk l):∀ (f d:Nat),d≤65→67≤f+d→∀ s:RdS,s.err=0→(xN f l d s).2.err=0→(xN f l d s).1.good d
 | 0,d,h1,h2=>by omega
 | f+1,d,h1,h2=>by
  intro s he h0
  cases hr:rend l s with
  | true=>exact absurd h0 (qL (by omega) hr)
  | false =>
   obtain ⟨_,hlt,k,hk⟩:=uK hr
   have hd:d≤64:=by
    apply Classical.byContradiction; intro hn
    have e:=zF8 he (show 64 < d by omega) hlt
    rw [zJ4 (zPV e),e] at h0; cases h0
   have e0:=zGl (l:=l) (f:=f) (n:=d) he (by rw [qP hd]; exact he)
   rw [zAg hk] at e0
   rw [e0] at h0 ⊢
   have hF:=hl.at_ hk
   by_cases c2:k.kind=2
   ·rw [if_pos c2]
    exact ⟨hd,.inl ⟨rfl,hF.var c2,rfl⟩⟩
   ·rw [if_neg c2] at h0 ⊢
    by_cases c3:(rgot l kInt s).1=true
    ·rw [if_pos c3]
     exact ⟨hd,.inr (.inl ⟨rfl,rfl,rfl⟩)⟩
    ·rw [if_neg c3] at h0 ⊢
     by_cases hw:(zS l 1 s).2.err=0
     ·obtain ⟨t,ht,tk,tr,te⟩:=zBm hw
      obtain ⟨g1,g2⟩:=qX (P:=Ty.good (d+1)) (zCZ hl f (d+1) (by omega) (by omega)) (fun s h=>qL (by omega) h) 10 [] _ hw h0 (fun x hx=>by cases hx) (by simp)
      refine ⟨hd,.inr (.inr ⟨rfl, ?_, ?_,g2,Ty.goods_of g1⟩)⟩
      ·rw [te]; exact (hl.at_ ht).name tk
      ·rw [te]; exact tr rfl
     ·rw [yJ hw] at h0
      exact absurd h0 hw
def InF (k:Int) (d:Nat) (g:Gl):Prop:=if loose k g.kind=true then d≤64∧g.good (d+1) else g.good d
theorem zP9 {k:Int} (h:k≠6) (g:Int):loose k g=loose 5 g:=by
 have h2:(k != 6)=true:=by simpa using h
 unfold loose
 rw [h2]; rfl
theorem InF.of {k:Int} (h:k≠6) {d:Nat} {g:Gl} (hg:InF 5 d g):InF k d g:=by unfold InF at hg ⊢; rw [zP9 h]; exact hg
theorem InF.up {k:Int} {d:Nat} {g:Gl} (hd:d≤64) (h:g.good (d+1)):InF k d g:=by
 unfold InF; split
 ·exact ⟨hd,h⟩
 ·exact Gl.mono g d (d+1) (by omega) h
theorem InF.plain {k:Int} {d:Nat} {g:Gl} (hg:InF k d g):g.good d:=by
 unfold InF at hg; split at hg
 ·exact Gl.mono g d (d+1) (by omega) hg.2
 ·exact hg
theorem InF.six {d:Nat} {g:Gl} (hg:InF 5 d g):InF 6 d g:=by
 by_cases h:g.kind=6
 ·have h5:loose 5 g.kind=true:=by rw [h]; rfl
  have h6:loose 6 g.kind=true:=by rw [h]; rfl
  unfold InF at hg ⊢
  rw [if_pos h5] at hg
  rw [if_pos h6]
  exact hg
 ·have h6:loose 6 g.kind=false:=by simp [loose,h]
  have:=hg.plain
  unfold InF
  rw [h6,if_neg Bool.false_ne_true]
  exact this
theorem zHi {P:Gl→Prop} {q:RdS→Gl×RdS} {m:ByteArray} (hq:∀ s,s.err=0→(q s).2.err=0→P (q s).1):∀ (k:Nat) (gs:List Gl) (s:RdS),s.err=0→(jV q m l k gs s).2.err=0→(∀ g ∈ gs,P g)→∀ g ∈ (jV q m l k gs s).1,P g
 | 0,gs,s,_,_,h=>h
 | k+1,gs,s,he,h0,h=>by
  simp only [jV] at h0 ⊢
  split at h0
  ·rename_i hg
   rw [if_pos hg]
   by_cases hqe:(q (rgot l m s).2).2.err=0
   ·refine zHi hq k _ _ hqe h0 fun g hx=>?_
    rcases List.mem_append.1 hx with hx | hx
    ·exact h g hx
    ·rw [List.mem_singleton.1 hx]; exact hq _ (by rw [wE]; exact he) hqe
   ·rw [zCq hqe] at h0
    exact absurd h0 hqe
  ·rename_i hg
   rw [if_neg hg]; exact h
theorem zEF {P:Gl→Prop} {q:RdS→Gl×RdS} {m:ByteArray} {kind:Int} (hq:∀ s,s.err=0→(q s).2.err=0→P (q s).1) (he:s.err=0) (h0:(wC kind m q l s).2.err=0):∃ gs,gs≠[]∧(∀ g ∈ gs,P g)∧(wC kind m q l s).1=kR kind gs:=by
 simp only [wC] at h0 ⊢
 by_cases hqe:(q s).2.err=0
 ·refine ⟨_,zGg _ _ _ (by simp),zHi hq _ _ _ hqe h0 (fun g hg=>?_),rfl⟩
  rw [List.mem_singleton.1 hg]; exact hq _ he hqe
 ·rw [zCq hqe] at h0
  exact absurd h0 hqe
theorem zDc (kind:Int) {gs:List Gl} (h:gs≠[]):(∃ g,gs=[g]∧kR kind gs=g)∨(2≤gs.length∧kR kind gs=.mk kind .none .none ⟨#[]⟩ [] gs):=by
 match gs,h with
 | [g],_=>exact .inl ⟨g,rfl,join_one kind g⟩
 | g::g2::gs,_=>exact .inr ⟨by simp,zCL kind (by simp)⟩
theorem zEC {q:RdS→Gl×RdS} {d:Nat} (hq:∀ s,s.err=0→(q s).2.err=0→InF 5 d (q s).1) (hs:vI l q) (he:s.err=0) (h0:(uQ q l s).2.err=0):(uQ q l s).1.good d:=by
 rw [zCU hs he] at h0 ⊢
 obtain ⟨os,hne,ho,e⟩:=zEF (P:=InF 6 d) (fun s he h0=>by
  obtain ⟨gs,hne,hg,e⟩:=zEF (P:=InF 5 d) hq he h0
  rw [e]
  rcases zDc 5 hne with ⟨g,rfl,e2⟩ | ⟨h2,e2⟩
  ·rw [e2]; exact (hg g (.head _)).six
  ·rw [e2]
   show InF 6 d _
   unfold InF
   rw [show loose 6 (Gl.mk 5 .none .none ⟨#[]⟩ [] gs).kind=false from rfl,if_neg Bool.false_ne_true]
   exact .inr (.inr (.inr (.inr (.inl ⟨.inl rfl,rfl,rfl,rfl,rfl,h2,Gl.goods_of hg⟩))))) he h0
 rw [e]
 rcases zDc 6 hne with ⟨g,rfl,e2⟩ | ⟨h2,e2⟩
 ·rw [e2]; exact (ho g (.head _)).plain
 ·rw [e2]
  exact .inr (.inr (.inr (.inr (.inl ⟨.inr rfl,rfl,rfl,rfl,rfl,h2,Gl.goods_of ho⟩))))
theorem InF.low {d:Nat} {g:Gl} (h:loose 5 g.kind=false) (hg:g.good d):InF 5 d g:=by unfold InF; rw [h,if_neg Bool.false_ne_true]; exact hg
theorem zFD (hl:TkOk l):∀ (f d:Nat),d≤65→67≤f+d→∀ s:RdS,s.err=0→(xP f l d s).2.err=0→InF 5 d (xP f l d s).1
 | 0,d,h1,h2=>by omega
 | f+1,d,h1,h2=>by
  intro s he h0
  cases hr:rend l s with
  | true=>exact absurd h0 (zLE (by omega) hr)
  | false =>
   obtain ⟨_,hlt,k,hk⟩:=uK hr
   have hd:d≤64:=by
    apply Classical.byContradiction; intro hn
    have e:=zF8 he (show 64 < d by omega) hlt
    rw [zFE (zPV e),e] at h0; cases h0
   have e0:=qP (l:=l) (s:=s) hd
   have ge:=fun t=>show (rgot l t s).2.err=0 by rw [wE]; exact he
   have ht:=zCY hl f (d+1) (by omega) (by omega)
   have hq:=zFD hl f (d+1) (by omega) (by omega)
   simp only [xP,e0] at h0 ⊢
   by_cases c1:(rgot l kX s).1=true
   ·rw [if_pos c1]; exact .low rfl (.inl ⟨rfl,hd,rfl,rfl,rfl,rfl,rfl⟩)
   rw [if_neg c1] at h0 ⊢
   by_cases c2:(rgot l kU s).1=true
   ·rw [if_pos c2]; exact .low rfl (.inr (.inl ⟨rfl,hd,rfl,rfl,rfl,rfl,rfl⟩))
   rw [if_neg c2] at h0 ⊢
   by_cases c3:(rgot l kNot s).1=true
   ·rw [if_pos c3] at h0 ⊢
    have:=(hq _ (ge _) h0).of (k:=7) (by decide)
    exact .low rfl (.inr (.inr (.inr (.inr (.inr (.inl ⟨rfl,hd,rfl,rfl,rfl,rfl,rfl,this,trivial⟩))))))
   rw [if_neg c3] at h0 ⊢
   by_cases c4:(rgot l vT s).1=true
   ·rw [if_pos c4] at h0 ⊢
    exact .low rfl (.inr (.inr (.inr (.inr (.inr (.inr (.inl ⟨rfl,hd,ht _ (ge _) h0,rfl,rfl,rfl,rfl⟩)))))))
   rw [if_neg c4] at h0 ⊢
   by_cases c5:(rgot l kTry s).1=true
   ·rw [if_pos c5] at h0 ⊢
    have hst:=zDk l f (d+1)
    obtain ⟨t1,t2⟩:=zLH (l:=l) (s:=(rgot l kTry s).2) hst
    rw [t2] at h0
    rw [t1]
    generalize (rgot l kTry s).2=s1 at h0 ge
    have n4:(yR l zAM (zS l 2 (yR l vS (xP f l (d+1) s1).2)).2).err=0:=by
     apply Classical.byContradiction; intro hn
     rw [hst _ hn] at h0; exact hn h0
    have n3:=(zAc n4).1
    have n2:=(zBy n3).1
    have n1:=(zAc n2).1
    have ns:s1.err=0:=by
     apply Classical.byContradiction; intro hn
     rw [hst _ hn] at n1; exact hn n1
    obtain ⟨t,tt,tk,_,te⟩:=zBm n3
    have g1:=(hq _ ns n1).of (k:=9) (by decide)
    have g2:=(hq _ n4 h0).of (k:=9) (by decide)
    refine .low rfl (.inr (.inr (.inr (.inr (.inr (.inr (.inr ⟨rfl,hd,rfl,rfl, ?_,rfl,rfl,g1,g2,trivial⟩)))))))
    rw [te]; exact (hl.at_ tt).var tk
   rw [if_neg c5] at h0 ⊢
   by_cases c6:(rgot l kL s).1=true
   ·rw [if_pos c6] at h0 ⊢
    have n1:=(zAc h0).1
    exact .up hd (zEC hq (vG l f (d+1)) (ge _) n1)
   rw [if_neg c6] at h0 ⊢
   have ha:(yS f l (d+1) s).2.err=0:=by
    apply Classical.byContradiction; intro hn
    simp only [zBf,wZ hn,Bool.false_eq_true,if_false] at h0
    split at h0
    ·exact hn h0
    ·rw [uC,if_neg hn] at h0; exact hn h0
   have hga:=ht s he ha
   simp only [zBf] at h0 ⊢
   by_cases hg:(rgot l kEq (yS f l (d+1) s).2).1=true
   ·rw [if_pos hg] at h0 ⊢
    exact .low rfl (.inr (.inr (.inl ⟨rfl,hd,hga,ht _ (by rw [wE]; exact ha) h0,rfl,rfl,rfl⟩)))
   ·rw [if_neg hg] at h0 ⊢
    by_cases hk3:(yS f l (d+1) s).1.kind=3
    ·refine .low rfl (.inr (.inr (.inr (.inl ⟨rfl,hd,rfl,rfl, ?_,rfl⟩))))
     generalize (yS f l (d+1) s).1=x at hga hk3
     obtain ⟨xk,xn,xi,xs⟩:=x
     simp only [Tm.kind] at hk3
     subst hk3
     have hi:xi=0:=by
      rcases hga.2 with ⟨h,_⟩ | ⟨h,_⟩ | ⟨_,h,_⟩
      ·cases h
      ·cases h
      ·exact h
     subst hi
     exact hga
    ·rw [if_neg hk3] at h0
     exact absurd h0 (vM (by decide) _)
theorem zJR (hl:TkOk l) {f d:Nat} (h1:d≤65) (h2:67≤f+d) (he:s.err=0) (h0:(zA1 f l d s).2.err=0):(zA1 f l d s).1.good d :=
 zEC (zFD hl f d h1 h2) (vG l f d) he h0
end
end Go.Aug

/- Plain: items: their forms are lexed and read back; what is read is good. -/
namespace Go.Aug
set_option maxRecDepth 100000
set_option linter.unusedSimpArgs false
set_option linter.unusedVariables false
def detT (n:Int):List UInt8:=if n=1 then [100,101,116] else if n=2 then [115,101,109,105,100,101,116] else if n=3 then [109,117,108,116,105] else if n=4 then [110,111,110,100,101,116] else []
def detW (n:Int):ByteArray:=if n=1 then kDet else if n=2 then jE else if n=3 then jD else kNon
def wayT (b:Bool):List UInt8:=if b then [105,110] else [111,117,116]
def wayK (b:Bool):List Tok:=[kw (if b then kIn else kOut)]
def Ct.t (c:Ct):List UInt8:=c.name.data.toList++rowT (Ty.ts c.args)
def Ct.toks (c:Ct):List Tok:=kw c.name::qC (Ty.tokss c.args)
def ctorsT (l:List Ct):List UInt8:=Lib.join (l.map Ct.t) [32,124,32]
def It.t0 (i:It):List UInt8 :=
 if i.kind=1 then [116,121,112,101,32]++i.name.data.toList++rowT (i.vars.map (·.data.toList))++[32,61,32]++ctorsT i.ctors
 else if i.kind=2 then [112,114,101,100,32]++i.name.data.toList++rowT (Ty.ts i.types)
 else if i.kind=3 then [109,111,100,101,32]++i.name.data.toList++rowT (i.ways.map wayT)++[32,105,115,32]++detT i.det
 else if i.kind=4 then i.name.data.toList++rowT (Tm.ts i.args)++(if i.body.kind=1 then [] else [32,58,45,32]++i.body.t)
 else []
def It.t (i:It):List UInt8:=i.t0++[46,10]
def It.toks (i:It):List Tok :=
 if i.kind=1 then kw kY::kw i.name::(qC (i.vars.map fun v=>[⟨2,v,0⟩])++zHv::zCf zBn (i.ctors.map Ct.toks))
 else if i.kind=2 then kw kW::kw i.name::qC (Ty.tokss i.types)
 else if i.kind=3 then kw kV::kw i.name::(qC (i.ways.map wayK)++[kw kIs,kw (detW i.det)])
 else kw i.name::(qC (Tm.tokss i.args)++(if i.body.kind=1 then [] else zJ9::i.body.toks))
structure NameOk (n:ByteArray):Prop where
 tk:IsTk ⟨1,n,0⟩
 res:xF n=false
structure Ct.Good (c:Ct):Prop where
 name:NameOk c.name
 few:c.args.length≤8
 args:Ty.goods 1 c.args
inductive It.Good:It→Prop
 | type {n:ByteArray} {vs:List ByteArray} {cs:List Ct} (hn:NameOk n) (h8:vs.length≤8) (hv:∀ v ∈ vs,IsTk ⟨2,v,0⟩) (hne:cs≠[]) (hc:∀ c ∈ cs,c.Good):It.Good { (default:It) with kind:=1,name:=n,vars:=vs,ctors:=cs }
 | pred {n:ByteArray} {ts:List Ty} (hn:NameOk n) (h8:ts.length≤8) (ht:Ty.goods 1 ts):It.Good { (default:It) with kind:=2,name:=n,types:=ts }
 | mode {n:ByteArray} {ws:List Bool} {d:Int} (hn:NameOk n) (h8:ws.length≤8) (hd:d=1∨d=2∨d=3∨d=4):It.Good { (default:It) with kind:=3,name:=n,ways:=ws,det:=d }
 | clause {n:ByteArray} {ts:List Tm} {g:Gl} (hn:NameOk n) (h8:ts.length≤8) (ht:Tm.goods 1 ts) (hg:g.good 1):It.Good { (default:It) with kind:=4,name:=n,args:=ts,body:=g }
theorem NameOk.lex {n:ByteArray} (h:NameOk n):LexP n.data.toList [kw n]:=kT h.tk
theorem Ct.lex {c:Ct} (h:c.Good):LexP c.t c.toks:=by
 have hr:=(Ty.lexs c.args 1 h.args).row
 exact (h.name.lex).app hr.1 hr.2
theorem LexL.map {α:Type} {f:α→List UInt8} {k:α→List Tok}:∀ (l:List α),(∀ x ∈ l,LexP (f x) (k x))→LexL (l.map f) (l.map k)
 | [],_=>.nil
 | x::l,h=>.cons (h x (.head _)) (LexL.map l fun y hy=>h y (.tail _ hy))
theorem zOP (b:Bool):LexP (wayT b) (wayK b):=by
 cases b with
 | true=>exact zBb (c:=105) (w:=[110]) (by decide) (by decide) (by decide)
 | false=>exact zBb (c:=111) (w:=[117,116]) (by decide) (by decide) (by decide)
theorem zMS {d:Int} (h:d=1∨d=2∨d=3∨d=4):LexP (detT d) [kw (detW d)]:=by
 rcases h with rfl | rfl | rfl | rfl
 ·exact zBb (c:=100) (w:=[101,116]) (by decide) (by decide) (by decide)
 ·exact zBb (c:=115) (w:=[101,109,105,100,101,116]) (by decide) (by decide) (by decide)
 ·exact zBb (c:=109) (w:=[117,108,116,105]) (by decide) (by decide) (by decide)
 ·exact zBb (c:=110) (w:=[111,110,100,101,116]) (by decide) (by decide) (by decide)
theorem It.lex {i:It} (h:i.Good):LexP i.t0 i.toks:=by
 cases h with
 | @type n vs cs hn h8 hv hne hc =>
  have h1:=(LexL.map (f:=Ct.t) (k:=Ct.toks) cs fun c hc'=>Ct.lex (hc c hc')).join zQ3 zOG
  have h2:=(LexL.map (f:=fun v:ByteArray=>v.data.toList) (k:=fun v=>[(⟨2,v,0⟩:Tok)]) vs fun v hv'=>kT (hv v hv')).row
  have h3:=zCg (c:=116) (w:=[121,112,101]) (by decide) (by decide) (by decide) (hn.lex.app (h2.1.app (.sp (.mark (w:=[]) zS9 rfl h1.sp)) (fun _ _=>vA (by decide))) (fun r hr=>by rw [List.append_assoc]; exact h2.2 _ (vA (by decide))))
  show LexP ([116,121,112,101,32]++n.data.toList++rowT (vs.map (·.data.toList))++[32,61,32]++ctorsT cs) (kw kY::kw n::(qC (vs.map fun v=>[⟨2,v,0⟩])++zHv::zCf zBn (cs.map Ct.toks)))
  change LexP _ (kw kY::kw n::(qC (vs.map fun v=>[⟨2,v,0⟩])++zHv::zCf zBn (cs.map Ct.toks))) at h3
  simpa [ctorsT] using h3
 | @pred n ts hn h8 ht =>
  have hr:=(Ty.lexs ts 1 ht).row
  have h3:=zCg (c:=112) (w:=[114,101,100]) (by decide) (by decide) (by decide) (hn.lex.app hr.1 hr.2)
  show LexP ([112,114,101,100,32]++n.data.toList++rowT (Ty.ts ts)) (kw kW::kw n::qC (Ty.tokss ts))
  change LexP _ (kw kW::kw n::qC (Ty.tokss ts)) at h3
  simpa using h3
 | @mode n ws d hn h8 hd =>
  have h2:=(LexL.map (f:=wayT) (k:=wayK) ws fun b _=>zOP b).row
  have h4:=zCg (c:=105) (w:=[115]) (by decide) (by decide) (by decide) (zMS hd)
  have h3:=zCg (c:=109) (w:=[111,100,101]) (by decide) (by decide) (by decide) (hn.lex.app (h2.1.app h4.sp (fun _ _=>vA (by decide))) (fun r hr=>by rw [List.append_assoc]; exact h2.2 _ (vA (by decide))))
  show LexP ([109,111,100,101,32]++n.data.toList++rowT (ws.map wayT)++[32,105,115,32]++detT d) (kw kV::kw n::(qC (ws.map wayK)++[kw kIs,kw (detW d)]))
  change LexP _ (kw kV::kw n::(qC (ws.map wayK)++[kw kIs,kw (detW d)])) at h3
  simpa using h3
 | @clause n ts g hn h8 ht hg =>
  have hr:=(Tm.lexs ts 1 ht).row
  show LexP (n.data.toList++rowT (Tm.ts ts)++(if g.kind=1 then [] else [32,58,45,32]++g.t)) (kw n::(qC (Tm.tokss ts)++(if g.kind=1 then [] else zJ9::g.toks)))
  rw [List.append_assoc]
  by_cases hk:g.kind=1
  ·rw [if_pos hk,if_pos hk,List.append_nil,List.append_nil]
   exact hn.lex.app hr.1 hr.2
  ·rw [if_neg hk,if_neg hk]
   exact hn.lex.app (hr.1.app (.sp (.mark (w:=[45]) zXJ rfl (Gl.lex g 1 hg).sp)) (fun _ _=>vA (by decide))) (fun r hr'=>by rw [List.append_assoc]; exact hr.2 _ (vA (by decide)))
def itsT:List It→List UInt8
 | []=>[]
 | i::l=>i.t++itsT l
def itsK:List It→List Tok
 | []=>[]
 | i::l=>i.toks++zAK::itsK l
theorem zLL:∀ (l:List It),(∀ i ∈ l,i.Good)→Lexed false (itsT l) (itsK l)
 | [],_=>.nil false
 | i::l,h=>by
  have:=It.lex (h i (.head _)) (46::10::itsT l) (zAK::itsK l) (vA (by decide)) (.tok (w:=[]) zS7 (.inl rfl) (.blank (c:=10) (by decide) (zLL l fun j hj=>h j (.tail _ hj))))
  simpa [itsT,itsK,It.t] using this
section
variable {l:List Tok}
theorem Ct.par {c:Ct} (h:c.Good) {b:List Tok} (hb:kQ b):Par l (vW l) (c.toks++b) c b:=fun p hp=>by
 obtain ⟨q,r,e1,e2,e3⟩:=Par.seq (Par.word (l:=l) (b:=qC (Ty.tokss c.args)++b) (t:=⟨1,c.name,0⟩) (k:=1) rfl (fun hh=>by have:=hh.2; rw [h.name.res] at this; cases this))
  (by rw [Ty.tokss_map]; exact Par.rowOf (f:=xN 66 l 1) c.args h.few (fun y hy t r ht=>Ty.par y 66 1 (by decide) (Ty.goods_mem h.args y hy) _ (fun t' r' e=>by obtain ⟨rfl,_⟩:=List.cons.inj e; exact zAk ht)) hb) p hp
 refine ⟨r, ?_,e3⟩
 simp only [vW,e1,e2]
theorem zJw (r:List Tok):kQ (zBn::r):=fun t r' e=>by obtain ⟨rfl,_⟩:=List.cons.inj e; exact wI (by decide)
theorem zEZ {b:List Tok} (hb:kQ b):∀ cs:List Ct,kQ (zAW zBn (cs.map Ct.toks)++b)
 | []=>hb
 | c::cs=>zJw _
theorem zHd {b:List Tok} (hb:kQ b) (hn:uW kBar b):∀ (cs:List Ct),(∀ c ∈ cs,c.Good)→∀ (k:Nat) (gs:List Ct) (p:Nat),l.drop p=zAW zBn (cs.map Ct.toks)++b→cs.length≤k→∃ r,qA l k gs ⟨p,0⟩=(gs++cs,⟨r,0⟩)∧l.drop r=b
 | [],_,k,gs,p,hp,_=>by
  obtain ⟨r,e,_⟩:=Par.got0 (l:=l) hn p hp
  exact ⟨p,by rw [zOu (by rw [e]),List.append_nil],hp⟩
 | c::cs,h,k,gs,p,hp,hk=>by
  cases k with
  | zero=>simp at hk
  | succ k =>
   rw [List.map_cons,zAW,List.cons_append,List.append_assoc] at hp
   obtain ⟨q1,r1,e1,e2,e3⟩:=Par.seq (Par.got (l:=l) (t:=zBn) (m:=kBar) ⟨rfl,.inr rfl⟩) (Ct.par (h c (.head _)) (zEZ hb cs)) p hp
   obtain ⟨r,e4,e5⟩:=zHd hb hn cs (fun x hx=>h x (.tail _ hx)) k (gs++[c]) r1 e3 (by simpa using hk)
   refine ⟨r, ?_,e5⟩
   simp only [qA,e1,if_true,e2,e4]
   simp
theorem zDC {n:ByteArray} (h:NameOk n) (b:List Tok):Par l (zS l 1) (kw n::b) n b:=Par.word (t:=kw n) rfl (fun hh=>by have:=hh.2; rw [show (kw n).text=n from rfl,h.res] at this; cases this)
theorem zHY {n m:ByteArray} (h:NameOk n) (hm:xF m=true):¬ uH (kw n) m:=qJ (fun e=>by rw [e] at h; have:=h.res; rw [hm] at this; cases this)
theorem zIE (b:List Tok):kQ (zAK::b):=fun t r e=>by obtain ⟨rfl,_⟩:=List.cons.inj e; exact wI (by decide)
theorem zXM {w:ByteArray} (hw:w≠⟨#[40]⟩) (b:List Tok):kQ (kw w::b):=fun t r e=>by obtain ⟨rfl,_⟩:=List.cons.inj e; exact qJ hw
theorem zXK (b:List Tok):kQ (zJ9::b):=fun t r e=>by obtain ⟨rfl,_⟩:=List.cons.inj e; exact wI (by decide)
theorem zLQ (b:Bool) (r:List Tok):Par l (vU l) (wayK b++r) b r:=fun p hp=>by
 cases b with
 | true =>
  obtain ⟨q,e,h⟩:=Par.got (l:=l) (b:=r) (wY (w:=kIn)) p hp
  exact ⟨q,by simp only [vU,e,if_true],h⟩
 | false =>
  obtain ⟨e,h⟩:=zAv (m:=kOut) hp (wY (w:=kOut))
  exact ⟨p+1,by simp only [vU,uO hp (qJ (w:=kOut) (m:=kIn) (by decide)),Bool.false_eq_true,if_false,e],h⟩
theorem zPN {d:Int} (h:d=1∨d=2∨d=3∨d=4) (r:List Tok):Par l (rdet l) (kw (detW d)::r) d r:=fun p hp=>by
 rcases h with rfl | rfl | rfl | rfl
 ·obtain ⟨q,e,h⟩:=Par.got (l:=l) (b:=r) (wY (w:=kDet)) p hp
  exact ⟨q,by simp only [rdet,e,if_true],h⟩
 ·have hp:l.drop p=kw jE::r:=hp
  obtain ⟨q,e,h⟩:=Par.got (l:=l) (b:=r) (wY (w:=jE)) p hp
  exact ⟨q,by simp only [rdet,uO hp (qJ (w:=jE) (m:=kDet) (by decide)),Bool.false_eq_true,if_false,e,if_true],h⟩
 ·have hp:l.drop p=kw jD::r:=hp
  obtain ⟨q,e,h⟩:=Par.got (l:=l) (b:=r) (wY (w:=jD)) p hp
  exact ⟨q,by simp only [rdet,uO hp (qJ (w:=jD) (m:=kDet) (by decide)),uO hp (qJ (w:=jD) (m:=jE) (by decide)),Bool.false_eq_true,if_false,e,if_true],h⟩
 ·have hp:l.drop p=kw kNon::r:=hp
  obtain ⟨q,e,h⟩:=Par.got (l:=l) (b:=r) (wY (w:=kNon)) p hp
  exact ⟨q,by simp only [rdet,uO hp (qJ (w:=kNon) (m:=kDet) (by decide)),uO hp (qJ (w:=kNon) (m:=jE) (by decide)),uO hp (qJ (w:=kNon) (m:=jD) (by decide)),Bool.false_eq_true,if_false,e,if_true],h⟩
theorem zRg {v:ByteArray} (r:List Tok):Par l (zS l 2) ([⟨2,v,0⟩]++r) v r:=Par.word (t:=⟨2,v,0⟩) rfl (fun hh=>by cases hh.1)
theorem It.par {i:It} (h:i.Good) (b:List Tok):Par l (uL l) (i.toks++zAK::b) i (zAK::b):=fun p hp=>by
 cases h with
 | @type n vs cs hn h8 hv hne hc =>
  obtain ⟨c,cs,rfl⟩:=List.exists_cons_of_ne_nil hne
  have hp:l.drop p=kw kY::kw n::(qC (vs.map fun v=>[⟨2,v,0⟩])++zHv::(c.toks++(zAW zBn (cs.map Ct.toks)++zAK::b))):=by
   rw [hp]; simp [It.toks,zCf]
  obtain ⟨q0,q1,e0,e1,h1⟩:=Par.seq (Par.got (l:=l) (wY (w:=kY))) (zDC hn _) p hp
  obtain ⟨q2,e2,h2⟩:=Par.rowOf (l:=l) (f:=zS l 2) (tk:=fun v=>[⟨2,v,0⟩]) vs h8 (fun y _ t r _=>zRg (t::r)) (zGL _) q1 h1
  obtain ⟨e3,h3⟩:=zAv (m:=kEq) h2 ⟨rfl,.inr rfl⟩
  obtain ⟨q4,e4,h4⟩:=Ct.par (hc c (.head _)) (zEZ (zIE b) cs) _ h3
  obtain ⟨q5,e5,h5⟩:=zHd (l:=l) (zIE b) (zBs (wI (by decide))) cs (fun x hx=>hc x (.tail _ hx)) l.length [c] q4 h4 (by
   have:=zIF h4
   have h6:=zEY zBn (cs.map Ct.toks)
   simp only [List.length_append,List.length_map] at this h6
   omega)
  refine ⟨q5, ?_,h5⟩
  simp only [uL,e0,if_true,zBj,e1,e2,e3,e4,e5,List.cons_append,List.nil_append]
 | @pred n ts hn h8 ht =>
  have hp:l.drop p=kw kW::kw n::(qC (Ty.tokss ts)++zAK::b):=by rw [hp]; simp [It.toks]
  have n0:=uO hp (qJ (w:=kW) (m:=kY) (by decide))
  obtain ⟨q0,q1,e0,e1,h1⟩:=Par.seq (Par.got (l:=l) (wY (w:=kW))) (zDC hn _) p hp
  rw [Ty.tokss_map] at h1
  obtain ⟨q2,e2,h2⟩:=Par.rowOf (l:=l) (f:=xN 66 l 1) ts h8 (fun y hy t r ht'=>Ty.par y 66 1 (by decide) (Ty.goods_mem ht y hy) _ (fun t' r' e=>by obtain ⟨rfl,_⟩:=List.cons.inj e; exact zAk ht')) (zIE b) q1 h1
  refine ⟨q2, ?_,h2⟩
  simp only [uL,n0,Bool.false_eq_true,if_false,e0,if_true,zBi,e1,e2]
 | @mode n ws d hn h8 hd =>
  have hp:l.drop p=kw kV::kw n::(qC (ws.map wayK)++kw kIs::kw (detW d)::zAK::b):=by rw [hp]; simp [It.toks]
  have n0:=uO hp (qJ (w:=kV) (m:=kY) (by decide))
  have n1:=uO hp (qJ (w:=kV) (m:=kW) (by decide))
  obtain ⟨q0,q1,e0,e1,h1⟩:=Par.seq (Par.got (l:=l) (wY (w:=kV))) (zDC hn _) p hp
  obtain ⟨q2,e2,h2⟩:=Par.rowOf (l:=l) (f:=vU l) (tk:=wayK) ws h8 (fun y _ t r _=>zLQ y (t::r)) (zXM (by decide) _) q1 h1
  obtain ⟨e3,h3⟩:=zAv (m:=kIs) h2 (wY)
  obtain ⟨q4,e4,h4⟩:=zPN hd _ _ h3
  refine ⟨q4, ?_,h4⟩
  simp only [uL,n0,n1,Bool.false_eq_true,if_false,e0,if_true,zBh,e1,e2,e3,e4]
 | @clause n ts g hn h8 ht hg =>
  have hp:l.drop p=kw n::(qC (Tm.tokss ts)++((if g.kind=1 then [] else zJ9::g.toks)++zAK::b)):=by rw [hp]; simp [It.toks]
  have n0:=uO hp (zHY hn (m:=kY) (by decide))
  have n1:=uO hp (zHY hn (m:=kW) (by decide))
  have n2:=uO hp (zHY hn (m:=kV) (by decide))
  obtain ⟨q1,e1,h1⟩:=zDC hn _ p hp
  rw [Tm.tokss_map] at h1
  have hop:kQ ((if g.kind=1 then [] else zJ9::g.toks)++zAK::b):=by
   split
   ·exact zIE b
   ·exact zXK _
  obtain ⟨q2,e2,h2⟩:=Par.rowOf (l:=l) (f:=yS 66 l 1) ts h8 (fun y hy t r ht'=>Tm.par y 66 1 (by decide) (Tm.goods_mem ht y hy) _ (fun t' r' e=>by obtain ⟨rfl,_⟩:=List.cons.inj e; exact zAk ht')) hop q1 h1
  by_cases hk:g.kind=1
  ·rw [if_pos hk] at h2
   have n3:=uO (m:=kIf) h2 (wI (by decide))
   refine ⟨q2, ?_,h2⟩
   have eg:g=.mk 1 .none .none ⟨#[]⟩ [] []:=by
    obtain ⟨k,a,b',m,xs,gs⟩:=g
    have hk:k=1:=hk
    subst hk
    rcases hg with ⟨_,_,rfl,rfl,rfl,rfl,rfl⟩ | ⟨h,_⟩ | ⟨h,_⟩ | ⟨h,_⟩ | ⟨h | h,_⟩ | ⟨h,_⟩ | ⟨h,_⟩ | ⟨h,_⟩
    ·rfl
    all_goals (exact absurd h (by decide))
   simp only [uL,n0,n1,n2,Bool.false_eq_true,if_false,qB,e1,e2,n3,eg]
  ·rw [if_neg hk] at h2
   obtain ⟨q3,q4,e3,e4,h4⟩:=Par.seq (Par.got (l:=l) (t:=zJ9) (m:=kIf) ⟨rfl,.inr rfl⟩) (Gl.par (l:=l) g (f:=66) (d:=1) (by decide) hg (b:=zAK::b) (zA7 (wI (by decide)) (wI (by decide))) (zBs (wI (by decide))) (zBs (wI (by decide)))) q2 h2
   refine ⟨q4, ?_,h4⟩
   simp only [uL,n0,n1,n2,Bool.false_eq_true,if_false,qB,e1,e2,e3,e4,if_true]
theorem zHr:∀ (is:List It),(∀ i ∈ is,i.Good)→zJm l (itsK is) is
 | [],_=>.nil
 | i::is,h=>.cons (by intro e; have:=congrArg List.length e; simp [itsK] at this) (It.par (h i (.head _)) (itsK is)) (zHr is fun j hj=>h j (.tail _ hj))
end
theorem zIN:∀ is:List It,is.length≤(itsK is).length
 | []=>Nat.le_refl _
 | i::is=>by have:=zIN is; simp only [itsK,List.length_cons,List.length_append]; omega
theorem zOI {is:List It} (h:∀ i ∈ is,i.Good) (hn:is.length≤512):qD (itsK is) 0=(is,0):=zJ1 (zHr is h) hn (zIN is)
section
variable {l:List Tok} {s:RdS}
theorem zAh (hl:TkOk l) (h:(zS l 1 s).2.err=0):NameOk (zS l 1 s).1:=by
 obtain ⟨t,ht,tk,tr,te⟩:=zBm h
 rw [te]
 exact ⟨(hl.at_ ht).name tk,tr rfl⟩
theorem zFw (hl:TkOk l) (he:s.err=0) (h0:(vW l s).2.err=0):(vW l s).1.Good:=by
 simp only [vW] at h0 ⊢
 by_cases hw:(zS l 1 s).2.err=0
 ·obtain ⟨g1,g2⟩:=qX (P:=Ty.good 1) (zCZ hl 66 1 (by decide) (by decide)) (fun s h=>qL (by decide) h) 10 [] _ hw h0 (fun x hx=>by cases hx) (by simp)
  exact ⟨zAh hl hw,g2,Ty.goods_of g1⟩
 ·rw [yJ hw] at h0
  exact absurd h0 hw
theorem zFv (hl:TkOk l):∀ (k:Nat) (cs:List Ct) (s:RdS),s.err=0→(qA l k cs s).2.err=0→cs≠[]→(∀ c ∈ cs,c.Good)→(qA l k cs s).1≠[]∧∀ c ∈ (qA l k cs s).1,c.Good
 | 0,cs,s,_,_,h1,h2=>⟨h1,h2⟩
 | k+1,cs,s,he,h0,h1,h2=>by
  simp only [qA] at h0 ⊢
  split at h0
  ·rename_i hg
   rw [if_pos hg]
   by_cases hqe:(vW l (rgot l kBar s).2).2.err=0
   ·refine zFv hl k _ _ hqe h0 (by simp) fun c hc=>?_
    rcases List.mem_append.1 hc with hc | hc
    ·exact h2 c hc
    ·rw [List.mem_singleton.1 hc]; exact zFw hl (by rw [wE]; exact he) hqe
   ·rw [zLu hqe] at h0
    exact absurd h0 hqe
  ·rename_i hg
   rw [if_neg hg]; exact ⟨h1,h2⟩
theorem zLw (h0:(rdet l s).2.err=0):(rdet l s).1=1∨(rdet l s).1=2∨(rdet l s).1=3∨(rdet l s).1=4:=by
 unfold rdet at h0 ⊢
 by_cases c1:(rgot l kDet s).1=true
 ·rw [if_pos c1]; exact .inl rfl
 rw [if_neg c1] at h0 ⊢
 by_cases c2:(rgot l jE s).1=true
 ·rw [if_pos c2]; exact .inr (.inl rfl)
 rw [if_neg c2] at h0 ⊢
 by_cases c3:(rgot l jD s).1=true
 ·rw [if_pos c3]; exact .inr (.inr (.inl rfl))
 rw [if_neg c3] at h0 ⊢
 by_cases c4:(rgot l kNon s).1=true
 ·rw [if_pos c4]; exact .inr (.inr (.inr rfl))
 rw [if_neg c4] at h0
 exact absurd h0 (vM (by decide) _)
theorem zJS (hl:TkOk l) (he:s.err=0) (h0:(uL l s).2.err=0):(uL l s).1.Good:=by
 have ge:=fun t=>show (rgot l t s).2.err=0 by rw [wE]; exact he
 simp only [uL] at h0 ⊢
 by_cases c1:(rgot l kY s).1=true
 ·rw [if_pos c1] at h0 ⊢
  generalize (rgot l kY s).2=s1 at h0
  simp only [zBj] at h0 ⊢
  have n3:(vW l (yR l kEq (yC (zS l 2) l 10 [] (zS l 1 s1).2).2)).2.err=0:=by
   apply Classical.byContradiction; intro hn
   rw [zLu hn] at h0; exact hn h0
  have n2:(yR l kEq (yC (zS l 2) l 10 [] (zS l 1 s1).2).2).err=0:=by
   apply Classical.byContradiction; intro hn
   simp only [vW,jK hn,yJ hn] at n3; exact hn n3
  have n1:=(zAc n2).1
  have n0:(zS l 1 s1).2.err=0:=by
   apply Classical.byContradiction; intro hn
   rw [yJ hn] at n1; exact hn n1
  obtain ⟨g1,g2⟩:=qX (P:=fun v=>IsTk ⟨2,v,0⟩) (fun s _ h=>by obtain ⟨t,ht,tk,_,te⟩:=zBm h; rw [te]; exact (hl.at_ ht).var tk) (fun s h=>zEP h) 10 [] _ n0 n1 (fun x hx=>by cases hx) (by simp)
  obtain ⟨g3,g4⟩:=zFv hl l.length [_] _ n3 h0 (by simp) (fun c hc=>by rw [List.mem_singleton.1 hc]; exact zFw hl n2 n3)
  exact .type (zAh hl n0) g2 g1 g3 g4
 rw [if_neg c1] at h0 ⊢
 by_cases c2:(rgot l kW s).1=true
 ·rw [if_pos c2] at h0 ⊢
  generalize (rgot l kW s).2=s1 at h0
  simp only [zBi] at h0 ⊢
  have n0:(zS l 1 s1).2.err=0:=by
   apply Classical.byContradiction; intro hn
   rw [yJ hn] at h0; exact hn h0
  obtain ⟨g1,g2⟩:=qX (P:=Ty.good 1) (zCZ hl 66 1 (by decide) (by decide)) (fun s h=>qL (by decide) h) 10 [] _ n0 h0 (fun x hx=>by cases hx) (by simp)
  exact .pred (zAh hl n0) g2 (Ty.goods_of g1)
 rw [if_neg c2] at h0 ⊢
 by_cases c3:(rgot l kV s).1=true
 ·rw [if_pos c3] at h0 ⊢
  generalize (rgot l kV s).2=s1 at h0
  simp only [zBh] at h0 ⊢
  have n2:(yR l kIs (yC (vU l) l 10 [] (zS l 1 s1).2).2).err=0:=by
   apply Classical.byContradiction; intro hn
   exact zOv hn h0
  have n1:=(zAc n2).1
  have n0:(zS l 1 s1).2.err=0:=by
   apply Classical.byContradiction; intro hn
   rw [yJ hn] at n1; exact hn n1
  obtain ⟨_,g2⟩:=qX (P:=fun _=>True) (fun s _ _=>trivial) (fun s h=>zC0 h) 10 [] _ n0 n1 (fun x hx=>by cases hx) (by simp)
  exact .mode (zAh hl n0) g2 (zLw h0)
 rw [if_neg c3] at h0 ⊢
 simp only [qB] at h0 ⊢
 have n1:(yC (yS 66 l 1) l 10 [] (zS l 1 s).2).2.err=0:=by
  apply Classical.byContradiction; intro hn
  simp only [wZ hn,Bool.false_eq_true,if_false] at h0; exact hn h0
 have n0:(zS l 1 s).2.err=0:=by
  apply Classical.byContradiction; intro hn
  rw [yJ hn] at n1; exact hn n1
 obtain ⟨g1,g2⟩:=qX (P:=Tm.good 1) (zCY hl 66 1 (by decide) (by decide)) (fun s h=>kJ (by decide) h) 10 [] _ n0 n1 (fun x hx=>by cases hx) (by simp)
 by_cases c:(rgot l kIf (yC (yS 66 l 1) l 10 [] (zS l 1 s).2).2).1=true
 ·rw [if_pos c] at h0 ⊢
  exact .clause (zAh hl n0) g2 (Tm.goods_of g1) (zJR hl (by decide) (by decide) (by rw [wE]; exact n1) h0)
 ·rw [if_neg c]
  exact .clause (zAh hl n0) g2 (Tm.goods_of g1) (.inl ⟨rfl,by decide,rfl,rfl,rfl,rfl,rfl⟩)
theorem zEE (hl:TkOk l):∀ (k:Nat) (is:List It) (s:RdS),s.err=0→(wW l k is s).2.err=0→(∀ i ∈ is,i.Good)→∀ i ∈ (wW l k is s).1,i.Good
 | 0,is,s,_,_,h=>h
 | k+1,is,s,he,h0,h=>by
  cases hr:rend l s with
  | true=>rw [zBV hr]; exact h
  | false =>
   obtain ⟨_,g1,g2,_,_,e⟩:=zJU hr h0
   rw [e] at h0 ⊢
   refine zEE hl k _ _ g2 h0 fun i hi=>?_
   rcases List.mem_append.1 hi with hi | hi
   ·exact h i hi
   ·rw [List.mem_singleton.1 hi]; exact zJS hl he g1
end
theorem qE {s:ByteArray} {is:List It} (h:qD (rlex s).1 (rlex s).2=(is,0)):(∀ i ∈ is,i.Good)∧is.length≤512:=by
 obtain ⟨l,e1,r1⟩:=rsrc_ok.1 h
 have hl:=zU4 s
 rw [e1] at hl
 obtain ⟨a1,a2,_⟩:=rsource_ok.1 r1
 rw [←a1]
 exact ⟨zEE hl _ _ _ rfl a2 (fun i hi=>by cases hi),zAR _ _ _ (by simp)⟩
def xS (l:List UInt8):ByteArray:=⟨l.toArray⟩
theorem jR (l:List UInt8):(xS l).size=l.length:=by simp [xS,ByteArray.size]
theorem zIe {is:List It} (h:∀ i ∈ is,i.Good) (hn:is.length≤512):if (itsT is).length≤16384 then rlex (xS (itsT is))=(itsK is,0)∧qD (rlex (xS (itsT is))).1 (rlex (xS (itsT is))).2=(is,0) else qD (rlex (xS (itsT is))).1 (rlex (xS (itsT is))).2=([],4):=by
 split
 ·rename_i hs
  have hl:rlex (xS (itsT is))=(itsK is,0):=rlex_lexed.2 ⟨by rw [jR]; exact hs,zLL is h⟩
  rw [hl]
  exact ⟨rfl,zOI h hn⟩
 ·rename_i hs
  have hl:rlex (xS (itsT is))=([],4):=by unfold rlex; rw [if_pos (by rw [jR]; omega)]
  rw [hl]
  exact zEK (by decide)
end Go.Aug

/- Plain: what is read is not large. -/
namespace Go.Aug
set_option maxRecDepth 100000
set_option linter.unusedSimpArgs false
set_option linter.unusedVariables false
theorem zCj:∀ (xs ys:List Tm),Tm.nodess (xs++ys)=Tm.nodess xs+Tm.nodess ys
 | [],ys=>by simp [Tm.nodess]
 | x::xs,ys=>by simp only [List.cons_append,Tm.nodess,zCj xs ys]; omega
theorem zBT {p:RdS→Tm×RdS} {l:List Tok} (hp:∀ s,(p s).1.nodes+s.pos≤1+(p s).2.pos):∀ (k:Nat) (xs:List Tm) (s:RdS),Tm.nodess (yC p l k xs s).1+s.pos≤Tm.nodess xs+(yC p l k xs s).2.pos
 | 0,xs,s=>Nat.le_refl _
 | k+1,xs,s=>by
  simp only [yC]
  split
  ·split
   ·rename_i h1 h2
    have hm:=(zAf h2).2.1
    have h3:=hp (xK l xs.length s).2
    have h4:=zBT (l:=l) hp k (xs++[(p (xK l xs.length s).2).1]) (p (xK l xs.length s).2).2
    rw [zCj] at h4
    simp only [Tm.nodess] at h4
    omega
   ·have:=zDG l xs.length s; show Tm.nodess xs+s.pos≤Tm.nodess xs+(xK l xs.length s).2.pos; omega
  ·exact Nat.le_refl _
theorem zAo {l:List Tok}:∀ (f n:Nat) (s:RdS),(yS f l n s).1.nodes+s.pos≤1+(yS f l n s).2.pos
 | 0,_,s=>Nat.le_refl _
 | f+1,n,s=>by
  have hn:=vO l n s
  have hw:=vH l 1 (yD l n s)
  have h1:=zBT (l:=l) (zAo (l:=l) f (n+1)) 10 [] (zS l 1 (yD l n s)).2
  simp only [Tm.nodess] at h1
  simp only [yS]
  split
  ·split
   ·simp only [Tm.nodes,Tm.nodess]; omega
   ·split
    ·simp only [Tm.nodes,Tm.nodess]; omega
    ·simp only [Tm.nodes]; omega
  ·simp only [Tm.nodes]; omega
theorem kB:∀ (xs ys:List Gl),Gl.nodess (xs++ys)=Gl.nodess xs+Gl.nodess ys
 | [],ys=>by simp [Gl.nodess]
 | x::xs,ys=>by simp only [List.cons_append,Gl.nodess,kB xs ys]; omega
theorem uI (k:Int) (n:ByteArray) (xs:List Tm) (gs:List Gl):(Gl.mk k .none .none n xs gs).nodes=3+Tm.nodess xs+Gl.nodess gs:=by simp only [Gl.nodes,Tm.none,Tm.nodes,Tm.nodess]
theorem zHO:∀ gs:List Gl,(gs.headD default).nodes≤3+Gl.nodess gs
 | []=>by show (Gl.mk 0 .none .none ⟨#[]⟩ [] []).nodes≤_; rw [uI]; simp [Tm.nodess,Gl.nodess]
 | g::gs=>by simp only [List.headD_cons,Gl.nodess]; omega
theorem zGS {gs:List Gl} (h:gs≠[]):(gs.headD default).nodes≤Gl.nodess gs:=by
 cases gs with
 | nil=>exact absurd rfl h
 | cons g gs=>simp only [List.headD_cons,Gl.nodess]; omega
theorem zEt {p:RdS→Gl×RdS} {l:List Tok} (hp:∀ s,(p s).1.nodes+6 * s.pos≤3+6 * (p s).2.pos):∀ (k:Nat) (gs:List Gl) (s:RdS),Gl.nodess (zAa p l k gs s).1+6 * s.pos≤Gl.nodess gs+6 * (zAa p l k gs s).2.pos
 | 0,gs,s=>Nat.le_refl _
 | k+1,gs,s=>by
  simp only [zAa]
  split
  ·rename_i h
   have hm:=(wA h).2.1
   have h3:=hp (rgot l wM s).2
   have h4:=zEt (l:=l) hp k (gs++[(p (rgot l wM s).2).1]) (p (rgot l wM s).2).2
   rw [kB] at h4
   simp only [Gl.nodess] at h4
   omega
  ·exact Nat.le_refl _
theorem zI4 {p:RdS→Gl×RdS} {l:List Tok}:∀ (k:Nat) (gs:List Gl) (s:RdS),gs≠[]→(zAa p l k gs s).1≠[]
 | 0,gs,s,h=>h
 | k+1,gs,s,h=>by
  simp only [zAa]
  split
  ·exact zI4 k _ _ (by simp)
  ·exact h
theorem zJ6 {p:RdS→Gl×RdS} {l:List Tok} (hp:∀ s,(p s).1.nodes+6 * s.pos≤3+6 * (p s).2.pos) (s:RdS):(rway p l s).1.nodes+6 * s.pos≤6+6 * (rway p l s).2.pos:=by
 have h1:=zEt (l:=l) hp l.length [(p s).1] (p s).2
 have h2:=hp s
 simp only [Gl.nodess] at h1
 simp only [rway,zA0]
 split
 ·rw [uI]; simp only [Tm.nodess]; omega
 ·have:=zGS (zI4 (p:=p) (l:=l) l.length [(p s).1] (p s).2 (by simp)); omega
theorem zFB {p:RdS→Gl×RdS} {l:List Tok} (hp:∀ s,(p s).1.nodes+6 * s.pos≤3+6 * (p s).2.pos):∀ (k:Nat) (os:List Gl) (s:RdS),Gl.nodess (rors p l k os s).1+6 * s.pos≤Gl.nodess os+6+6 * (rors p l k os s).2.pos
 | 0,os,s=>by simp only [rors]; omega
 | k+1,os,s=>by
  have hw:=zJ6 (l:=l) hp s
  simp only [rors]
  split
  ·split
   ·rename_i h
    have hm:=(wA h).2.1
    have h4:=zFB (l:=l) hp k (os++[(rway p l s).1]) (rgot l zAl (rway p l s).2).2
    rw [kB] at h4
    simp only [Gl.nodess] at h4
    omega
   ·show Gl.nodess (os++[(rway p l s).1])+6 * s.pos≤Gl.nodess os+6+6 * (rway p l s).2.pos
    rw [kB]
    simp only [Gl.nodess]; omega
  ·show Gl.nodess os+6 * s.pos≤Gl.nodess os+6+6 * s.pos
   omega
theorem zDi {p:RdS→Gl×RdS} {l:List Tok} (hp:∀ s,(p s).1.nodes+6 * s.pos≤3+6 * (p s).2.pos) (s:RdS):(uQ p l s).1.nodes+6 * s.pos≤9+6 * (uQ p l s).2.pos:=by
 have h:=zFB (l:=l) hp (l.length+1) [] s
 simp only [Gl.nodess] at h
 simp only [uQ,zJv]
 split
 ·have:=zHO (rors p l (l.length+1) [] s).1; omega
 ·rw [uI]; simp only [Tm.nodess]; omega
theorem Tm.nodes_args (t:Tm):t.nodes=1+Tm.nodess t.args:=by cases t; rfl
theorem zEI {l:List Tok}:∀ (f n:Nat) (s:RdS),(xP f l n s).1.nodes+6 * s.pos≤3+6 * (xP f l n s).2.pos
 | 0,_,s=>by show (Gl.mk 0 .none .none ⟨#[]⟩ [] []).nodes+_≤_; rw [uI]; simp only [Tm.nodess,Gl.nodess]; exact Nat.le_refl _
 | f+1,n,s0=>by
  have hn:=vO l n s0
  have ih:=zEI (l:=l) f (n+1)
  simp only [xP]
  generalize yD l n s0=s at hn ⊢
  split
  ·rename_i h; have hm:=(wA h).2.1; simp only [uI,Tm.nodess,Gl.nodess]; omega
  split
  ·rename_i h; have hm:=(wA h).2.1; simp only [uI,Tm.nodess,Gl.nodess]; omega
  split
  ·rename_i h; have hm:=(wA h).2.1; have h1:=ih (rgot l kNot s).2; simp only [uI,Tm.nodess,Gl.nodess]; omega
  split
  ·rename_i h; have hm:=(wA h).2.1; have h1:=zAo (l:=l) f (n+1) (rgot l vT s).2; simp only [Gl.nodes,Tm.none,Tm.nodes,Tm.nodess,Gl.nodess]; omega
  split
  ·rename_i h
   have hm:=(wA h).2.1
   have h1:=ih (rgot l kTry s).2
   have h2:=qO l vS (xP f l (n+1) (rgot l kTry s).2).2
   have h3:=vH l 2 (yR l vS (xP f l (n+1) (rgot l kTry s).2).2)
   have h4:=qO l zAM (zS l 2 (yR l vS (xP f l (n+1) (rgot l kTry s).2).2)).2
   have h5:=ih (yR l zAM (zS l 2 (yR l vS (xP f l (n+1) (rgot l kTry s).2).2)).2)
   simp only [rtry,uI,Tm.nodess,Gl.nodess]; omega
  split
  ·rename_i h
   have hm:=(wA h).2.1
   have h1:=zDi (l:=l) ih (rgot l kL s).2
   have h2:=qO l zBa (uQ (xP f l (n+1)) l (rgot l kL s).2).2
   show (uQ (xP f l (n+1)) l (rgot l kL s).2).1.nodes+_≤3+6 * (yR l zBa (uQ (xP f l (n+1)) l (rgot l kL s).2).2).pos
   omega
  ·have h1:=zAo (l:=l) f (n+1) s
   have h7:=(yS f l (n+1) s).1.nodes_pos
   simp only [zBf]
   split
   ·rename_i h
    have hm:=(wA h).2.1
    have h2:=zAo (l:=l) f (n+1) (rgot l kEq (yS f l (n+1) s).2).2
    have h5:=(yS f l (n+1) s).1.nodes_pos
    have h6:=(yS f l (n+1) (rgot l kEq (yS f l (n+1) s).2).2).1.nodes_pos
    simp only [Gl.nodes,Tm.nodess,Gl.nodess]; omega
   ·have h3:=Tm.nodes_args (yS f l (n+1) s).1
    simp only [uI,Gl.nodess]
    split
    ·omega
    ·rw [vN]; omega
theorem zH5 {l:List Tok} (f n:Nat) (s:RdS):(zA1 f l n s).1.nodes+6 * s.pos≤9+6 * (zA1 f l n s).2.pos:=zDi (fun s=>zEI f n s) s
def kO {α:Type} (μ:α→Nat):List α→Nat
 | []=>0
 | x::l=>μ x+kO μ l
theorem zEW {α:Type} (μ:α→Nat):∀ (a b:List α),kO μ (a++b)=kO μ a+kO μ b
 | [],b=>by simp [kO]
 | x::a,b=>by simp only [List.cons_append,kO,zEW μ a b]; omega
theorem zBu {α:Type} (μ:α→Nat) {p:RdS→α×RdS} {l:List Tok} (hp:∀ s,μ (p s).1+s.pos≤1+(p s).2.pos):∀ (k:Nat) (xs:List α) (s:RdS),kO μ (yC p l k xs s).1+s.pos≤kO μ xs+(yC p l k xs s).2.pos
 | 0,xs,s=>Nat.le_refl _
 | k+1,xs,s=>by
  simp only [yC]
  have hge:=zDG l xs.length s
  split
  ·split
   ·rename_i hm
    have h1:=zBu μ (l:=l) hp k (xs++[(p (xK l xs.length s).2).1]) (p (xK l xs.length s).2).2
    have h2:=hp (xK l xs.length s).2
    have h3:=(zAf hm).2.1
    rw [zEW] at h1
    simp only [kO] at h1
    omega
   ·simp only; omega
  ·exact Nat.le_refl _
theorem Ty.nodess_sum:∀ l:List Ty,Ty.nodess l=kO Ty.nodes l
 | []=>rfl
 | t::l=>by rw [Ty.nodess,kO,Ty.nodess_sum l]
theorem zBW {l:List Tok}:∀ (f n:Nat) (s:RdS),(xN f l n s).1.nodes+s.pos≤1+(xN f l n s).2.pos
 | 0,n,s=>by simp only [xN]; show (Ty.nodes default)+s.pos≤1+s.pos; have:(default:Ty).nodes=1:=rfl; omega
 | f+1,n,s=>by
  have hp:=vO l n s
  have hw:=zBu Ty.nodes (l:=l) (zBW (l:=l) f (n+1)) 10 [] (zS l 1 (yD l n s)).2
  have hg:=vH l 1 (yD l n s)
  have hi:=wG l kInt (yD l n s)
  simp only [kO] at hw
  simp only [xN]
  repeat' split
  ·simp only [Ty.nodes,Ty.nodess]; omega
  ·simp only [Ty.nodes,Ty.nodess]; omega
  ·simp only [Ty.nodes,Ty.nodess_sum]; omega
def Ct.nodes (c:Ct):Nat:=1+Ty.nodess c.args
def It.wt (i:It):Nat:=i.body.nodes+Tm.nodess i.args+Ty.nodess i.types+kO Ct.nodes i.ctors+i.vars.length+i.ways.length
theorem zEX {α:Type}:∀ l:List α,kO (fun _=>1) l=l.length
 | []=>rfl
 | x::l=>by rw [kO,zEX l,List.length_cons]; omega
theorem zEx {l:List Tok} (s:RdS):(vW l s).1.nodes+s.pos≤1+(vW l s).2.pos:=by
 have hw:=zBu Ty.nodes (l:=l) (zBW (l:=l) 66 1) 10 [] (zS l 1 s).2
 have hg:=vH l 1 s
 simp only [kO] at hw
 simp only [vW,Ct.nodes,Ty.nodess_sum]; omega
theorem zEu {l:List Tok}:∀ (k:Nat) (cs:List Ct) (s:RdS),kO Ct.nodes (qA l k cs s).1+s.pos≤kO Ct.nodes cs+(qA l k cs s).2.pos
 | 0,cs,s=>Nat.le_refl _
 | k+1,cs,s=>by
  simp only [qA]
  split
  ·rename_i hg
   have h1:=zEu (l:=l) k (cs++[(vW l (rgot l kBar s).2).1]) (vW l (rgot l kBar s).2).2
   have h2:=zEx (l:=l) (rgot l kBar s).2
   have h3:=(wA hg).2.1
   rw [zEW] at h1
   simp only [kO] at h1
   omega
  ·exact Nat.le_refl _
theorem zOz {l:List Tok} (s:RdS):(uL l s).1.wt+6 * s.pos≤12+6 * (uL l s).2.pos:=by
 have hb:(Gl.mk 0 .none .none ⟨#[]⟩ [] []).nodes=3:=rfl
 unfold uL
 split
 ·have g0:=wG l kY s
  generalize (rgot l kY s).2=s1 at g0
  simp only [zBj]
  have g1:=vH l 1 s1
  have g2:=zBu (fun _=>1) (l:=l) (p:=zS l 2) (fun s=>by have:=vH l 2 s; omega) 10 [] (zS l 1 s1).2
  have g3:=qO l kEq (yC (zS l 2) l 10 [] (zS l 1 s1).2).2
  have g4:=zEx (l:=l) (yR l kEq (yC (zS l 2) l 10 [] (zS l 1 s1).2).2)
  have g5:=zEu (l:=l) l.length [(vW l (yR l kEq (yC (zS l 2) l 10 [] (zS l 1 s1).2).2)).1] (vW l (yR l kEq (yC (zS l 2) l 10 [] (zS l 1 s1).2).2)).2
  simp only [kO,zEX] at g2 g5
  show Gl.nodes (Gl.mk 0 .none .none ⟨#[]⟩ [] [])+Tm.nodess []+Ty.nodess []+_+_+0+_≤_
  rw [hb]
  simp only [Tm.nodess,Ty.nodess]
  omega
 split
 ·have g0:=wG l kW s
  generalize (rgot l kW s).2=s1 at g0
  simp only [zBi]
  have g1:=vH l 1 s1
  have g2:=zBu Ty.nodes (l:=l) (zBW (l:=l) 66 1) 10 [] (zS l 1 s1).2
  simp only [kO] at g2
  show Gl.nodes (Gl.mk 0 .none .none ⟨#[]⟩ [] [])+Tm.nodess []+Ty.nodess _+0+0+0+_≤_
  rw [hb]
  simp only [Tm.nodess,Ty.nodess_sum]
  omega
 split
 ·have g0:=wG l kV s
  generalize (rgot l kV s).2=s1 at g0
  simp only [zBh]
  have g1:=vH l 1 s1
  have g2:=zBu (fun _=>1) (l:=l) (p:=vU l) (fun s=>by have:=(qZ l).ge s; omega) 10 [] (zS l 1 s1).2
  have g3:=qO l kIs (yC (vU l) l 10 [] (zS l 1 s1).2).2
  have g4:=(zCT l).ge (yR l kIs (yC (vU l) l 10 [] (zS l 1 s1).2).2)
  simp only [kO,zEX] at g2
  show Gl.nodes (Gl.mk 0 .none .none ⟨#[]⟩ [] [])+Tm.nodess []+Ty.nodess []+0+0+_+_≤_
  rw [hb]
  simp only [Tm.nodess,Ty.nodess]
  omega
 ·have hw:=vH l 1 s
  have h1:=zBT (l:=l) (zAo (l:=l) 66 1) 10 [] (zS l 1 s).2
  simp only [Tm.nodess] at h1
  simp only [qB]
  split
  ·rename_i h
   have hm:=(wA h).2.1
   have h2:=zH5 (l:=l) 66 1 (rgot l kIf (yC (yS 66 l 1) l 10 [] (zS l 1 s).2).2).2
   show Gl.nodes _+Tm.nodess _+Ty.nodess []+0+0+0+_≤_
   simp only [Ty.nodess]
   omega
  ·show Gl.nodes (Gl.mk 1 .none .none ⟨#[]⟩ [] [])+Tm.nodess _+Ty.nodess []+0+0+0+_≤_
   rw [show Gl.nodes (Gl.mk 1 .none .none ⟨#[]⟩ [] [])=3 from rfl]
   simp only [Ty.nodess]
   omega
theorem zHh {l:List Tok} (hl:l.length≤16384):∀ (k:Nat) (is:List It) (s:RdS),s.pos≤l.length→(∀ i ∈ is,i.wt≤98316)→∀ i ∈ (wW l k is s).1,i.wt≤98316
 | 0,is,s,_,h=>h
 | k+1,is,s,hs,h=>by
  simp only [wW]
  split
  ·exact h
  ·split
   ·exact h
   ·refine zHh hl k _ _ (wT ((zAn l).le _ hs)) fun i hi=>?_
    rcases List.mem_append.1 hi with hi | hi
    ·exact h i hi
    ·rw [List.mem_singleton.1 hi]
     have h1:=zOz (l:=l) s
     have h2:=(zAn l).le _ hs
     omega
theorem qQ {k:Int} {n:ByteArray} (hk:k=1∨k=2) (h:IsTk ⟨k,n,0⟩):n.size≤32:=by
 obtain ⟨c,w,h⟩:=h
 have hw:=h.word ⟨⟨c::w⟩⟩ 0 [] (by simp) (.inr (fun x hx=>by cases hx))
 have hc:(⟨⟨c::w⟩⟩:ByteArray)[0]?=some c:=by rw [qK]; rfl
 have hkk:(wV ⟨⟨c::w⟩⟩ 0 c).1.kind=k:=by rw [hw]
 have hok:(wV ⟨⟨c::w⟩⟩ 0 c).2=true:=by rw [hw]
 have htx:(wV ⟨⟨c::w⟩⟩ 0 c).1.text=n:=by rw [hw]
 rw [←htx]
 unfold wV at hok hkk ⊢
 by_cases hl:uG c=true
 ·rw [if_pos hl] at hok ⊢
  simp only [zBp] at hok ⊢
  have:=of_decide_eq_true hok
  rw [ByteArray.size_extract]
  omega
 ·rw [if_neg hl] at hkk
  exfalso
  split at hkk
  ·simp only [kP] at hkk; omega
  ·split at hkk
   ·simp only at hkk; omega
   ·split at hkk
    ·simp only at hkk; omega
    ·simp only at hkk; omega
mutual
theorem Tm.sz:∀ (t:Tm) (d:Nat),t.good d→D.sizes t.cs+1≤42 * t.nodes
 | .mk k n i args,d,⟨_,h⟩=>by
  have hn:n.size≤32:=by
   rcases h with ⟨_,h,_⟩ | ⟨_,rfl,_⟩ | ⟨_,_,h,_⟩
   ·exact qQ (.inr rfl) h
   ·decide
   ·exact qQ (.inl rfl) h
  have ha:D.sizes (Tm.ds args)≤42 * Tm.nodess args:=by
   rcases h with ⟨_,_,_,rfl⟩ | ⟨_,_,_,rfl⟩ | ⟨_,_,_,_,_,h⟩
   ·simp [Tm.ds,D.sizes]
   ·simp [Tm.ds,D.sizes]
   ·exact Tm.szs args (d+1) h
  simp only [Tm.cs,D.sizes,D.size,Tm.nodes]
  omega
theorem Tm.szs:∀ (l:List Tm) (d:Nat),Tm.goods d l→D.sizes (Tm.ds l)≤42 * Tm.nodess l
 | [],_,_=>by simp [Tm.ds,D.sizes]
 | t::l,d,⟨h1,h2⟩=>by
  have a:=Tm.sz t d h1
  have b:=Tm.szs l d h2
  simp only [Tm.ds,D.sizes,D.size,Tm.nodess]
  omega
end
mutual
theorem Ty.sz:∀ (t:Ty) (d:Nat),t.good d→D.sizes t.cs+1≤42 * t.nodes
 | .mk v n args,d,⟨_,h⟩=>by
  have hn:n.size≤32:=by
   rcases h with ⟨_,h,_⟩ | ⟨_,rfl,_⟩ | ⟨_,h,_⟩
   ·exact qQ (.inr rfl) h
   ·decide
   ·exact qQ (.inl rfl) h
  have ha:D.sizes (Ty.ds args)≤42 * Ty.nodess args:=by
   rcases h with ⟨_,_,rfl⟩ | ⟨_,_,rfl⟩ | ⟨_,_,_,_,h⟩
   ·simp [Ty.ds,D.sizes]
   ·simp [Ty.ds,D.sizes]
   ·exact Ty.szs args (d+1) h
  simp only [Ty.cs,D.sizes,D.size,Ty.nodes]
  omega
theorem Ty.szs:∀ (l:List Ty) (d:Nat),Ty.goods d l→D.sizes (Ty.ds l)≤42 * Ty.nodess l
 | [],_,_=>by simp [Ty.ds,D.sizes]
 | t::l,d,⟨h1,h2⟩=>by
  have a:=Ty.sz t d h1
  have b:=Ty.szs l d h2
  simp only [Ty.ds,D.sizes,D.size,Ty.nodess]
  omega
end
theorem Tm.none_sz:D.sizes Tm.none.cs+1≤42 * Tm.none.nodes:=by decide
mutual
theorem Gl.sz:∀ (g:Gl) (d:Nat),g.good d→D.sizes g.cs+1≤42 * g.nodes
 | .mk k a b n args gs,d,h=>by
  have hz:(⟨#[]⟩:ByteArray).size=0:=rfl
  have n0:=Tm.none_sz
  have key:D.sizes a.cs+1≤42 * a.nodes∧D.sizes b.cs+1≤42 * b.nodes∧n.size≤32∧D.sizes (Tm.ds args)≤42 * Tm.nodess args∧D.sizes (Gl.ds gs)≤42 * Gl.nodess gs:=by
   have e1:D.sizes (Tm.ds [])≤42 * Tm.nodess []:=by simp [Tm.ds,D.sizes]
   have e2:D.sizes (Gl.ds [])≤42 * Gl.nodess []:=by simp [Gl.ds,D.sizes]
   rcases h with ⟨_,_,rfl,rfl,rfl,rfl,rfl⟩ | ⟨_,_,rfl,rfl,rfl,rfl,rfl⟩ | ⟨_,_,ha,hb,rfl,rfl,rfl⟩ | ⟨_,_,rfl,rfl,hc,rfl⟩ | ⟨_,rfl,rfl,rfl,rfl,_,hg⟩ | ⟨_,_,rfl,rfl,rfl,rfl,_,hg⟩ | ⟨_,_,ha,rfl,rfl,rfl,rfl⟩ | ⟨_,_,rfl,rfl,hn,rfl,_,hg⟩
   ·exact ⟨n0,n0,by omega,e1,e2⟩
   ·exact ⟨n0,n0,by omega,e1,e2⟩
   ·exact ⟨Tm.sz a _ ha,Tm.sz b _ hb,by omega,e1,e2⟩
   ·have hc2:=hc.2
    rcases hc2 with ⟨h,_⟩ | ⟨h,_⟩ | ⟨_,_,h1,_,_,h2⟩
    ·exact absurd h (by decide)
    ·exact absurd h (by decide)
    ·exact ⟨n0,n0,qQ (.inl rfl) h1,Tm.szs args _ h2,e2⟩
   ·exact ⟨n0,n0,by omega,e1,Gl.szs gs _ _ hg⟩
   ·exact ⟨n0,n0,by omega,e1,Gl.szs gs _ _ hg⟩
   ·exact ⟨Tm.sz a _ ha,n0,by omega,e1,e2⟩
   ·exact ⟨n0,n0,qQ (.inr rfl) hn,e1,Gl.szs gs _ _ hg⟩
  obtain ⟨k1,k2,k3,k4,k5⟩:=key
  simp only [Gl.cs,D.sizes,D.size,D.sizes_append,Gl.nodes,←Tm.ds_map]
  omega
theorem Gl.szs:∀ (l:List Gl) (k:Int) (d:Nat),Gl.goods k d l→D.sizes (Gl.ds l)≤42 * Gl.nodess l
 | [],_,_,_=>by simp [Gl.ds,D.sizes]
 | t::l,k,d,⟨h1,h2⟩=>by
  have a:D.sizes t.cs+1≤42 * t.nodes:=by
   split at h1
   ·exact Gl.sz t (d+1) h1.2
   ·exact Gl.sz t d h1
  have b:=Gl.szs l k d h2
  simp only [Gl.ds,D.sizes,D.size,Gl.nodess]
  omega
end
theorem zIT:∀ (l:List ByteArray),(∀ v ∈ l,IsTk ⟨2,v,0⟩)→D.sizes (l.map .str)≤42 * l.length
 | [],_=>by simp [D.sizes]
 | v::l,h=>by
  have a:=qQ (.inr rfl) (h v (.head _))
  have b:=zIT l fun x hx=>h x (.tail _ hx)
  simp only [List.map_cons,D.sizes,D.size,List.length_cons]
  omega
theorem zIy:∀ (l:List Bool),D.sizes (l.map .bool)=l.length
 | []=>rfl
 | v::l=>by simp only [List.map_cons,D.sizes,D.size,List.length_cons,zIy l]; omega
theorem zIB:∀ (l:List Ct),(∀ c ∈ l,c.Good)→D.sizes (l.map Ct.d)≤42 * kO Ct.nodes l
 | [],_=>by simp [D.sizes]
 | c::l,h=>by
  have h0:=h c (.head _)
  have a:=qQ (.inl rfl) h0.name.tk
  have b:=zIB l fun x hx=>h x (.tail _ hx)
  have d:=Ty.szs c.args 1 h0.args
  simp only [List.map_cons,D.sizes,D.size,Ct.d,Ct.cs,kO,Ct.nodes,←Ty.ds_map]
  omega
theorem It.sz {i:It} (h:i.Good):D.sizes i.cs≤42 * i.wt+60:=by
 have hb:D.sizes (Gl.mk 0 .none .none ⟨#[]⟩ [] []).cs=12:=by decide
 have e1:D.sizes (([]:List ByteArray).map D.str)=0:=rfl
 have e2:D.sizes (([]:List Ct).map Ct.d)=0:=rfl
 have e3:D.sizes (([]:List Ty).map Ty.d)=0:=rfl
 have e4:D.sizes (([]:List Bool).map D.bool)=0:=rfl
 have e5:D.sizes (([]:List Tm).map Tm.d)=0:=rfl
 cases h with
 | @type n vs cs hn h8 hv hne hc =>
  have a:=qQ (.inl rfl) hn.tk
  have b:=zIT vs hv
  have c:=zIB cs hc
  show D.sizes (_++(Gl.mk 0 .none .none ⟨#[]⟩ [] []).cs)≤42 * (_+_+_+_+_+_)+60
  rw [D.sizes_append,hb]
  simp only [D.sizes,D.size]
  show 1+(n.size+1+(D.sizes (vs.map .str)+1+(D.sizes (cs.map Ct.d)+1+(D.sizes (([]:List Ty).map Ty.d)+1+(D.sizes (([]:List Bool).map D.bool)+1+(1+(D.sizes (([]:List Tm).map Tm.d)+1+0)))))))+12≤42 * (3+0+0+kO Ct.nodes cs+vs.length+0)+60
  omega
 | @pred n ts hn h8 ht =>
  have a:=qQ (.inl rfl) hn.tk
  have b:=Ty.szs ts 1 ht
  rw [Ty.ds_map] at b
  show D.sizes (_++(Gl.mk 0 .none .none ⟨#[]⟩ [] []).cs)≤42 * (_+_+_+_+_+_)+60
  rw [D.sizes_append,hb]
  simp only [D.sizes,D.size]
  show 1+(n.size+1+(D.sizes (([]:List ByteArray).map D.str)+1+(D.sizes (([]:List Ct).map Ct.d)+1+(D.sizes (ts.map Ty.d)+1+(D.sizes (([]:List Bool).map D.bool)+1+(1+(D.sizes (([]:List Tm).map Tm.d)+1+0)))))))+12≤42 * (3+0+Ty.nodess ts+0+0+0)+60
  omega
 | @mode n ws d hn h8 hd =>
  have a:=qQ (.inl rfl) hn.tk
  have b:=zIy ws
  show D.sizes (_++(Gl.mk 0 .none .none ⟨#[]⟩ [] []).cs)≤42 * (_+_+_+_+_+_)+60
  rw [D.sizes_append,hb]
  simp only [D.sizes,D.size]
  show 1+(n.size+1+(D.sizes (([]:List ByteArray).map D.str)+1+(D.sizes (([]:List Ct).map Ct.d)+1+(D.sizes (([]:List Ty).map Ty.d)+1+(D.sizes (ws.map D.bool)+1+(1+(D.sizes (([]:List Tm).map Tm.d)+1+0)))))))+12≤42 * (3+0+0+0+0+ws.length)+60
  omega
 | @clause n ts g hn h8 ht hg =>
  have a:=qQ (.inl rfl) hn.tk
  have b:=Tm.szs ts 1 ht
  have c:=Gl.sz g 1 hg
  rw [Tm.ds_map] at b
  show D.sizes (_++g.cs)≤42 * (_+_+_+_+_+_)+60
  rw [D.sizes_append]
  simp only [D.sizes,D.size]
  show 1+(n.size+1+(D.sizes (([]:List ByteArray).map D.str)+1+(D.sizes (([]:List Ct).map Ct.d)+1+(D.sizes (([]:List Ty).map Ty.d)+1+(D.sizes (([]:List Bool).map D.bool)+1+(1+(D.sizes (ts.map Tm.d)+1+0)))))))+D.sizes g.cs≤42 * (g.nodes+Tm.nodess ts+0+0+0+0)+60
  omega
def InI (n:Int):Prop:=-9223372036854775808≤n∧n≤9223372036854775807
theorem zHz (x:Int):InI (IntKind.i64.wrap x):=by unfold InI; rw [IntKind.wrap_i64]; omega
theorem zEs {d:ByteArray}:∀ (k:Nat) (n:Int) (i:Nat) (m:Int),InI n→uJ d k n i=some m→InI m
 | 0,n,i,m,h,e=>by simp only [uJ] at e; cases e; exact h
 | k+1,n,i,m,h,e=>by
  simp only [uJ] at e
  split at e
  ·cases e; exact h
  ·split at e
   ·cases e
   ·exact zEs k _ _ m (zHz _) e
theorem zGU:InI 0:=⟨by decide,by decide⟩
theorem zQN (s:ByteArray):InI (rInt s).1:=by
 unfold rInt
 generalize zAA s=d
 by_cases h1:d.size=0∨19 < d.size∨(uN d 0 48=true∧1 < s.size)
 ·rw [if_pos h1]; exact zGU
 ·rw [if_neg h1]
  cases hn:uJ d d.size 0 0 with
  | none=>exact zGU
  | some n =>
   have hi:=zEs _ _ _ _ zGU hn
   simp only
   by_cases h2:uN s 0 45=true
   ·rw [if_pos h2]; exact hi
   ·rw [if_neg h2]
    by_cases h3:n=-9223372036854775808
    ·rw [if_pos h3]; exact zGU
    ·rw [if_neg h3]; exact zHz _
theorem zOt (s:ByteArray) (p:Nat) (c:UInt8):InI (wV s p c).1.int:=by
 unfold wV
 by_cases h1:uG c=true
 ·rw [if_pos h1]; exact zGU
 rw [if_neg h1]
 by_cases h2:isDig c=true∨(c.toNat:Int)=45
 ·rw [if_pos h2]; exact zQN _
 rw [if_neg h2]
 by_cases h3:(c.toNat:Int)=58∧p+1 < s.size∧uN s (p+1) 45=true
 ·rw [if_pos h3]; exact zGU
 rw [if_neg h3]
 by_cases h4:kMarks.contains c.toNat=true
 ·rw [if_pos h4]; exact zGU
 rw [if_neg h4]; exact zGU
theorem zVh {x:ByteArray} {i:Int} (h:IsTk ⟨3,x,i⟩):InI i:=by
 obtain ⟨c,w,h⟩:=h
 have hw:=h.word ⟨⟨c::w⟩⟩ 0 [] (by simp) (.inr (fun x hx=>by cases hx))
 have:=zOt ⟨⟨c::w⟩⟩ 0 c
 rw [hw] at this
 exact this
theorem zEU {s:ByteArray} {is:List It} (h:qD (rlex s).1 (rlex s).2=(is,0)):∀ i ∈ is,D.sizes i.cs≤4194304:=fun i hi=>by
 have h0:=It.sz ((qE h).1 i hi)
 obtain ⟨l,e1,r1⟩:=rsrc_ok.1 h
 have hl:=zGh s
 rw [e1] at hl
 obtain ⟨a1,_,_⟩:=rsource_ok.1 r1
 rw [←a1] at hi
 have:=zHh hl _ [] ⟨0,0⟩ (Nat.zero_le _) (fun i hi=>by cases hi) i hi
 omega

section
variable {α:Type} {q:List Tok→RdS→α×RdS} {z x:α}
end
section
variable {s:ByteArray}
end
end Go.Aug
