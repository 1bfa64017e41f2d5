/- Texts piece by piece: what the lexer's and the reader's plain forms make of them; conditions stand in each theorem. -/
import Derived.Test.YthldjffimcngaaaGreatDoorGrammarOne
import Derived.Lib.AtoiAll
import Derived.Lib.ItoaNum
set_option linter.all false
set_option linter.unusedVariables false
set_option linter.unusedSimpArgs false
set_option linter.unusedSectionVars false

/- Plain: the tokens of bytes, piece by piece. -/
namespace Go.Aug
set_option maxRecDepth 100000
set_option linter.unusedSimpArgs false
theorem zFc {s:ByteArray} {p:Nat} {c:UInt8} {rest:List UInt8} (h:s.data.toList.drop p=c::rest):s[p]?=some c∧p < s.size:=by
 have h1:s.data.toList[p]?=some c:=by rw [←List.head?_drop,h]; rfl
 have hlt:p < s.size:=by have:=(List.getElem?_eq_some_iff.1 h1).1; simpa using this
 refine ⟨?_,hlt⟩
 rw [getElem?_pos s p hlt]
 have:s.data.toList[p]'(by simpa using hlt)=c:=(List.getElem?_eq_some_iff.1 h1).2
 rw [←this]; rfl
theorem zKv {s:ByteArray} {p:Nat} (h:s.data.toList.drop p=[]):s[p]?=none:=by
 have:s.data.toList.length≤p:=List.drop_eq_nil_iff.1 h
 exact getElem?_neg s p (by simp at this; show ¬ p < s.size; exact Nat.not_lt.2 this)
theorem zAz {s:ByteArray} {p:Nat} {a b:List UInt8} (h:s.data.toList.drop p=a++b):s.data.toList.drop (p+a.length)=b:=by
 rw [←List.drop_drop,h,List.drop_left]
theorem uR {s:ByteArray} {p:Nat} {a b:List UInt8} (h:s.data.toList.drop p=a++b):s.extract p (p+a.length)=⟨⟨a⟩⟩:=by
 apply ByteArray.ext
 rw [ByteArray.data_extract]
 apply Array.ext'
 rw [Array.toList_extract,List.extract_eq_drop_take,h]
 have:p+a.length - p=a.length:=by omega
 rw [this,List.take_left]
theorem zDH {q:UInt8→Bool} {s:ByteArray}:∀ (w rest:List UInt8) (k n:Nat),s.data.toList.drop n=w++rest→(∀ c ∈ w,q c=true)→(∀ c,rest.head?=some c→q c=false)→w.length≤k→uD q s k n=n+w.length
 | [],rest,k,n,h,_,hr,_=>by
  cases k with
  | zero=>rfl
  | succ k =>
   cases rest with
   | nil=>simp only [uD,zKv h]; rfl
   | cons c rest=>simp only [uD,(zFc h).1,hr c rfl]; rfl
 | c::w,rest,k,n,h,hw,hr,hk=>by
  cases k with
  | zero=>simp at hk
  | succ k =>
   simp only [uD,(zFc h).1,hw c (.head _),if_true]
   rw [zDH w rest k (n+1) (zAz (a:=[c]) h) (fun x hx=>hw x (.tail _ hx)) hr (by simpa using hk)]
   simp only [List.length_cons]; omega
def isWd (c:UInt8):Bool:=uG c || isDig c
def zIs (t:ByteArray):Prop:=∃ c w,t.data.toList=c::w∧uB c=true∧(∀ x ∈ w,isWd x=true)∧w.length+1≤32
theorem zBl {q:UInt8→Bool} {s:ByteArray}:∀ (k n:Nat),n≤s.size→∀ j,n≤j→j < uD q s k n→∃ c,s[j]?=some c∧q c=true
 | 0,n,_,j,h1,h2=>by simp only [uD] at h2; omega
 | k+1,n,hn,j,h1,h2=>by
  simp only [uD] at h2
  split at h2
  ·rename_i c hc
   split at h2
   ·rename_i hq
    rcases Nat.lt_or_ge n j with h | h
    ·have hlt:n < s.size:=by
      apply Classical.byContradiction; intro hn
      simp [hn] at hc
     exact zBl k (n+1) hlt j h h2
    ·have:j=n:=by omega
     subst this; exact ⟨c,hc,hq⟩
   ·omega
  ·omega
theorem zJN {s:ByteArray} {p:Nat} {c:UInt8} (hp:s[p]?=some c) (h:(wV s p c).2=true) (h1:(wV s p c).1.kind=1):zIs (wV s p c).1.text:=by
 have hlt:p < s.size:=by
  apply Classical.byContradiction; intro hn
  simp [hn] at hp
 unfold wV at h h1 ⊢
 split at h
 ·rename_i hl
  rw [if_pos hl] at h1 ⊢
  simp only [zBp] at h h1 ⊢
  have hsm:uB c=true:=by
   apply Classical.byContradiction; intro hn
   rw [if_neg hn] at h1; cases h1
  have hr:=zAd (p:=fun c=>uG c || isDig c) (s:=s) s.size p (Nat.le_of_lt hlt)
  have hall:=zBl (q:=fun c=>uG c || isDig c) (s:=s) s.size p (Nat.le_of_lt hlt)
  have hge:p+1≤uD (fun c=>uG c || isDig c) s s.size p:=by
   obtain ⟨k,hk⟩:∃ k,s.size=k+1:=⟨s.size - 1,by omega⟩
   rw [hk]
   simp only [uD,hp,hl,Bool.true_or,if_true]
   exact (zAd k (p+1) hlt).1
  generalize uD (fun c=>uG c || isDig c) s s.size p=r at h hr hall hge
  have hle:=of_decide_eq_true h
  have e:(s.extract p r).data.toList=(s.data.toList.drop p).take (r - p):=by
   rw [ByteArray.data_extract,Array.toList_extract,List.extract_eq_drop_take]
  have hget:∀ j,p+j < r→((s.data.toList.drop p).take (r - p))[j]?=s[p+j]?:=by
   intro j hj
   have hjs:p+j < s.size:=by omega
   rw [List.getElem?_take,if_pos (by omega),List.getElem?_drop,getElem?_pos s (p+j) hjs,List.getElem?_eq_getElem (by simpa using hjs)]
   rfl
  have hlen:((s.data.toList.drop p).take (r - p)).length=r - p:=by
   have:s.data.toList.length=s.size:=by simp
   rw [List.length_take,List.length_drop,this]; omega
  rw [←e] at hget hlen
  unfold zIs
  generalize (s.extract p r).data.toList=w at hget hlen ⊢
  cases w with
  | nil=>simp at hlen; omega
  | cons x w =>
   have h0:=hget 0 (by omega)
   rw [Nat.add_zero,hp] at h0
   simp at h0
   subst h0
   refine ⟨x,w,rfl,hsm,fun y hy=>?_,by simp at hlen; omega⟩
   obtain ⟨j,hj⟩:=List.mem_iff_getElem?.1 hy
   have hjl:=(List.getElem?_eq_some_iff.1 hj).1
   have hj2:=hget (j+1) (by simp at hlen; omega)
   obtain ⟨z,hz,hq⟩:=hall (p+(j+1)) (by omega) (by simp at hlen; omega)
   rw [hz] at hj2
   simp [hj] at hj2
   subst hj2
   exact hq
 ·rename_i hl
  rw [if_neg hl] at h1
  exfalso
  split at h1
  ·cases h1
  ·split at h1
   ·cases h1
   ·split at h1 <;> cases h1

def digF (a:Nat) (c:UInt8):Nat:=a * 10+(c.toNat - 48)
def valF (a:Nat) (l:List UInt8):Nat:=l.foldl digF a
def digC (c:UInt8):Prop:=48≤c.toNat∧c.toNat≤57
theorem isDig_iff {c:UInt8}:isDig c=true↔digC c:=by
 unfold isDig digC
 rw [Bool.and_eq_true,decide_eq_true_eq,decide_eq_true_eq]
 generalize c.toNat=n
 omega
theorem zAx (a:Nat):valF a []=a:=by unfold valF; rw [List.foldl_nil]
theorem jM (a:Nat) (c:UInt8) (r:List UInt8):valF a (c::r)=valF (a * 10+(c.toNat - 48)) r:=by unfold valF; rw [List.foldl_cons,digF]
attribute [local irreducible] valF
theorem zE0:∀ (l:List UInt8) (a:Nat),a≤valF a l
 | [],a=>by rw [zAx]; exact Nat.le_refl _
 | c::r,a=>by
  have:=zE0 r (a * 10+(c.toNat - 48))
  rw [jM]
  generalize valF (a * 10+(c.toNat - 48)) r=v at this ⊢
  omega
theorem zHw (c:UInt8):∀ (l:List UInt8) (a:Nat),valF a (l++[c])=valF a l * 10+(c.toNat - 48)
 | [],a=>by rw [List.nil_append,jM,zAx,zAx]
 | b::r,a=>by rw [List.cons_append,jM,jM]; exact zHw c r _
theorem zKV (a:Nat):Lib.parseUint10 a []=.ok a:=rfl
theorem zJJ {a:Nat} {c:UInt8} {r:List UInt8} (h:digC c):Lib.parseUint10 a (c::r)=if 1844674407370955162≤a then .range else if 18446744073709551616≤a * 10+(c.toNat - 48) then .range else Lib.parseUint10 (a * 10+(c.toNat - 48)) r:=if_pos h
theorem zEn:∀ (l:List UInt8) (a:Nat),(∀ c ∈ l,digC c)→a < 18446744073709551616→Lib.parseUint10 a l=if valF a l < 18446744073709551616 then .ok (valF a l) else .range
 | [],a,_,ha=>by rw [zKV,zAx,if_pos ha]
 | c::r,a,hd,ha=>by
  have h1:=hd c (.head _)
  have hge:=zE0 r (a * 10+(c.toNat - 48))
  rw [zJJ h1,jM]
  have ih:=zEn r (a * 10+(c.toNat - 48)) (fun x hx=>hd x (.tail _ hx))
  generalize valF (a * 10+(c.toNat - 48)) r=v at hge ih ⊢
  generalize Lib.parseUint10 (a * 10+(c.toNat - 48)) r=w at ih ⊢
  generalize c.toNat - 48=x at hge ih ⊢
  by_cases h2:1844674407370955162≤a
  ·rw [if_pos h2,if_neg (by omega)]
  ·rw [if_neg h2]
   by_cases h3:18446744073709551616≤a * 10+x
   ·rw [if_pos h3,if_neg (by omega)]
   ·rw [if_neg h3]; exact ih (by omega)
theorem zLU {c:UInt8} (h:digC c):xOf c=((c.toNat - 48:Nat):Int):=by
 unfold digC at h
 have e:IntKind.u8.wrap ((c.toNat:Int) - 48)=(c.toNat:Int) - 48:=by
  unfold IntKind.wrap IntKind.bits IntKind.signed; simp; omega
 unfold xOf
 rw [e,jP (by omega) (by omega)]; omega
theorem zHS {c:UInt8} (h:digC c) {m:Nat}:zF0 (-(m:Int)) c=decide (9223372036854775808 < m * 10+(c.toNat - 48)):=by
 have hx:=zLU h
 unfold digC at h
 unfold zF0
 rw [hx,jP (n:=-9223372036854775808+((c.toNat - 48:Nat):Int)) (by omega) (by omega)]
 have e:Int.tdiv (-9223372036854775808+((c.toNat - 48:Nat):Int)) 10=-(((9223372036854775808 - (c.toNat - 48)) / 10:Nat):Int):=by
  have:(-9223372036854775808+((c.toNat - 48:Nat):Int))=-((9223372036854775808 - (c.toNat - 48):Nat):Int):=by omega
  rw [this,Int.neg_tdiv]; rfl
 rw [e,jP (by omega) (by omega)]
 rw [Bool.eq_iff_iff]
 simp only [Bool.or_eq_true,decide_eq_true_eq]
 omega
theorem zFV {l:List UInt8} {i:Nat} {c:UInt8} (h:l[i]?=some c):l.drop i=c::l.drop (i+1):=by
 obtain ⟨hi,rfl⟩:=List.getElem?_eq_some_iff.1 h
 exact List.drop_eq_getElem_cons hi
theorem zKw (s:ByteArray) (i:Nat):s[i]?=s.data.toList[i]?:=by
 cases h:s.data.toList.drop i with
 | nil =>
  rw [zKv h]
  have:=List.drop_eq_nil_iff.1 h
  rw [List.getElem?_eq_none this]
 | cons c r =>
  rw [(zFc h).1,←List.head?_drop,h]; rfl
theorem zTO (d:ByteArray) (n:Int) (i:Nat):uJ d 0 n i=some n:=rfl
theorem zNd {d:ByteArray} {n:Int} {k i:Nat} (h:d.data.toList[i]?=none):uJ d (k+1) n i=some n:=by
 simp only [uJ,zKw,h]
theorem zP8 {d:ByteArray} {n:Int} {k i:Nat} {c:UInt8} (h:d.data.toList[i]?=some c):uJ d (k+1) n i=if zF0 n c=true then none else uJ d k (IntKind.i64.wrap (IntKind.i64.wrap (10 * n) - xOf c)) (i+1):=by
 simp only [uJ,zKw,h]
theorem zF6 (d:ByteArray) (hd:∀ c ∈ d.data.toList,digC c):∀ (k i m:Nat),d.size≤k+i→m≤9223372036854775808 →
  uJ d k (-(m:Int)) i=if valF m (d.data.toList.drop i)≤9223372036854775808 then some (-(valF m (d.data.toList.drop i):Int)) else none
 | 0,i,m,hk,hm=>by
  have:d.data.toList.drop i=[]:=List.drop_eq_nil_iff.2 (by simp only [Array.length_toList]; show d.size≤i; omega)
  rw [this,zTO,zAx,if_pos hm]
 | k+1,i,m,hk,hm=>by
  cases h:d.data.toList[i]? with
  | none =>
   have:d.data.toList.drop i=[]:=List.drop_eq_nil_iff.2 (List.getElem?_eq_none_iff.1 h)
   rw [this,zNd h,zAx,if_pos hm]
  | some c =>
   have hc:=hd c (List.mem_of_getElem? h)
   have ih:=zF6 d hd k (i+1) (m * 10+(c.toNat - 48)) (by omega)
   have hx:=zLU hc
   rw [zFV h,jM,zP8 h,hx]
   simp only [zHS hc,decide_eq_true_eq]
   have hge:=zE0 (d.data.toList.drop (i+1)) (m * 10+(c.toNat - 48))
   unfold digC at hc
   generalize valF (m * 10+(c.toNat - 48)) (d.data.toList.drop (i+1))=v at hge ih ⊢
   generalize c.toNat=x at hc hge ih ⊢
   by_cases h2:9223372036854775808 < m * 10+(x - 48)
   ·rw [if_pos h2,if_neg (by omega)]
   ·rw [if_neg h2]
    have e:IntKind.i64.wrap (IntKind.i64.wrap (10 * -(m:Int)) - ((x - 48:Nat):Int))=-((m * 10+(x - 48):Nat):Int):=by
     rw [jP (n:=10 * -(m:Int)) (by omega) (by omega),jP (by omega) (by omega)]; omega
    rw [e]
    exact ih (by omega)
theorem zGs (c:UInt8):UInt8.ofNat c.toNat=c:=by simp
theorem zPO {n:Nat} (h:n < 10):digC (UInt8.ofNat (48+n))∧(UInt8.ofNat (48+n)).toNat=48+n:=by
 have:(UInt8.ofNat (48+n)).toNat=48+n:=by simp; omega
 exact ⟨by unfold digC; omega,this⟩
theorem zPL:∀ (n:Nat) (l:List UInt8),l.length=n→(∀ c ∈ l,digC c)→l≠[]→(l.head?=some 48→l.length=1)→Lib.decDigits (valF 0 l)=l:=by
 intro n
 induction n using Nat.strongRecOn with
 | _ n ih =>
  intro l hn hd hne hz
  obtain ⟨l',c,rfl⟩:∃ l' c,l=l'++[c]:=⟨l.dropLast,l.getLast hne,(List.dropLast_concat_getLast hne).symm⟩
  have hc:=hd c (by simp)
  have hc':=hc
  unfold digC at hc'
  rw [zHw]
  by_cases h0:l'=[]
  ·subst h0
   rw [zAx,List.nil_append,Nat.zero_mul,Nat.zero_add]
   rw [Lib.decDigits,dif_pos (by omega),show 48+(c.toNat - 48)=c.toNat by omega,zGs]
  ·have hh:l'.head?=(l'++[c]).head?:=by cases l' with | nil=>exact absurd rfl h0 | cons a t=>rfl
   have hz':l'.head?≠some 48:=fun e=>by
    have h1:=hz (hh ▸ e)
    have h2:0 < l'.length:=List.length_pos_iff.2 h0
    rw [List.length_append] at h1
    simp only [List.length_cons,List.length_nil] at h1
    omega
   have e:=ih l'.length (by simp at hn; omega) l' rfl (fun x hx=>hd x (by simp [hx])) h0 (fun e=>absurd e hz')
   have hpos:1≤valF 0 l':=by
    cases l' with
    | nil=>exact absurd rfl h0
    | cons a t =>
     have ha:=hd a (by simp)
     unfold digC at ha
     have hne:a.toNat≠48:=fun e=>hz' (by simp only [List.head?_cons,Option.some.injEq]; exact UInt8.toNat_inj.1 e)
     have:=zE0 t (0 * 10+(a.toNat - 48))
     rw [jM]
     generalize valF (0 * 10+(a.toNat - 48)) t=v at this ⊢
     omega
   generalize valF 0 l'=v at e hpos ⊢
   rw [Lib.decDigits,dif_neg (by omega),show (v * 10+(c.toNat - 48)) / 10=v by omega,show (v * 10+(c.toNat - 48)) % 10=c.toNat - 48 by omega,e,
    show 48+(c.toNat - 48)=c.toNat by omega,zGs]
theorem zMR (u:Nat):(Lib.decDigits u).head?=some 48→Lib.decDigits u=[48]:=by
 induction u using Nat.strongRecOn with
 | _ u ih =>
  by_cases h:u < 10
  ·rw [Lib.decDigits,dif_pos h]
   intro hh
   simp only [List.head?_cons,Option.some.injEq] at hh
   rw [hh]
  ·rw [Lib.decDigits,dif_neg h]
   intro hh
   have hne:Lib.decDigits (u / 10)≠[]:=by
    rw [Lib.decDigits]; split <;> simp
   have e:(Lib.decDigits (u / 10)).head?=some 48:=by
    cases hd:Lib.decDigits (u / 10) with
    | nil=>exact absurd hd hne
    | cons a t=>rw [hd] at hh; exact hh
   have e2:=ih (u / 10) (by omega) e
   exfalso
   have h3:Lib.decDigits (u / 10)=[48]:=e2
   have h4:=Lib.decDigits_length (u / 10)
   rw [h3] at h4
   have h5:=Lib.lt_pow_nDigits (u / 10)
   rw [←h4] at h5
   rw [Lib.decDigits,dif_pos (by simpa using h5)] at h3
   simp only [List.cons.injEq,and_true] at h3
   have:=congrArg UInt8.toNat h3
   rw [(zPO (by simpa using h5)).2] at this
   have:u / 10=0:=by simpa using this
   omega
theorem zCH {l:List UInt8} (hd:∀ c ∈ l,digC c) (hne:l≠[]):Lib.decDigits (valF 0 l)=l↔(l.head?=some 48→l.length=1) :=
 ⟨fun e h=>by have:=zMR (valF 0 l) (by rw [e]; exact h); rw [e] at this; rw [this]; rfl,zPL _ l rfl hd hne⟩
theorem zKR {u k:Nat} (h:u < 10 ^ k) (hk:1≤k):Lib.nDigits u≤k:=by
 apply Classical.byContradiction; intro hn
 have:∀ (j v:Nat),1≤j→v < 10 ^ j→Lib.nDigits v≤j:=by
  intro j
  induction j with
  | zero=>intro v h; omega
  | succ j ih =>
   intro v _ hv
   by_cases hb:v < 10
   ·rw [Lib.nDigits_small hb]; omega
   ·rw [Lib.nDigits_big hb]
    have hj:1≤j:=by
     rcases Nat.eq_zero_or_pos j with e | e
     ·subst e; simp at hv; omega
     ·exact e
    have:=ih (v / 10) hj (by rw [Nat.pow_succ] at hv; omega)
    omega
 exact hn (this k u hk h)
def pNum (w:ByteArray):Option Int:=match Lib.atoiAll w.data.toList with
 | .ok v=>if Lib.itoa v=w.data.toList then some v else none
 | _=>none
theorem zDw {s:ByteArray} {c:UInt8} {r:List UInt8} (h:s.data.toList=c::r) (x:Int):uN s 0 x=decide ((c.toNat:Int)=x):=by
 unfold uN; rw [zKw,h]; rfl
theorem zAJ (s:ByteArray):s.size=s.data.toList.length:=by simp
theorem zIZ {w:ByteArray} (hd:∀ c ∈ w.data.toList,digC c) (hne:w.data.toList≠[]) :
  (∀ n,pNum w=some n→rInt w=(n,true))∧(pNum w=none→(rInt w).2=false):=by
 obtain ⟨c,r,hw⟩:=List.exists_cons_of_ne_nil hne
 have hc:=hd c (by rw [hw]; exact .head _)
 have hc':=hc
 unfold digC at hc'
 have h45:uN w 0 45=false:=by rw [zDw hw]; simp; omega
 have hcut:zAA w=w:=by unfold zAA; rw [h45]; rfl
 have hsz:w.size≠0:=by rw [zAJ,hw]; simp
 have hat:Lib.atoiAll w.data.toList=if valF 0 w.data.toList < 9223372036854775808 then .ok (valF 0 w.data.toList:Int) else .range:=by
  rw [hw] at hd ⊢
  unfold Lib.atoiAll Lib.parseMag
  simp only
  rw [if_neg (c:=c.toNat=43∨c.toNat=45) (by omega),if_neg (by simp),zEn _ 0 hd (by omega)]
  by_cases h1:valF 0 (c::r) < 18446744073709551616
  ·rw [if_pos h1]
   simp only
   by_cases h2:valF 0 (c::r) < 9223372036854775808
   ·rw [if_neg (by omega),if_neg (by omega),if_neg (by omega),if_pos h2]
   ·rw [if_pos (by omega),if_neg h2]
  ·rw [if_neg h1,if_neg (by omega)]
 have hit:∀ u:Nat,Lib.itoa (u:Int)=Lib.decDigits u:=fun u=>by unfold Lib.itoa; rw [if_neg (by omega)]; rfl
 have hp:pNum w=if valF 0 w.data.toList < 9223372036854775808∧(w.data.toList.head?=some 48→w.data.toList.length=1) then some (valF 0 w.data.toList:Int) else none:=by
  unfold pNum
  rw [hat]
  by_cases h2:valF 0 w.data.toList < 9223372036854775808
  ·rw [if_pos h2]
   simp only [hit]
   by_cases h3:w.data.toList.head?=some 48→w.data.toList.length=1
   ·rw [if_pos ((zCH hd hne).2 h3),if_pos ⟨h2,h3⟩]
   ·rw [if_neg (fun e=>h3 ((zCH hd hne).1 e)),if_neg (fun e=>h3 e.2)]
  ·rw [if_neg h2,if_neg (fun e=>h2 e.1)]
 have h48:uN w 0 48=true↔w.data.toList.head?=some 48:=by
  rw [zDw hw,hw]
  simp only [decide_eq_true_eq,List.head?_cons,Option.some.injEq]
  constructor
  ·intro e; exact UInt8.toNat_inj.1 (by show c.toNat=48; omega)
  ·rintro rfl; rfl
 have hlp:uJ w w.size 0 0=if valF 0 w.data.toList≤9223372036854775808 then some (-(valF 0 w.data.toList:Int)) else none:=by
  have:=zF6 w hd w.size 0 0 (by omega) (by omega)
  simpa using this
 have hr:rInt w=if w.size≤19∧(w.data.toList.head?=some 48→w.data.toList.length=1)∧valF 0 w.data.toList < 9223372036854775808 then ((valF 0 w.data.toList:Int),true) else (0,false):=by
  unfold rInt
  rw [hcut,h45,hlp]
  by_cases h1:w.size≤19
  ·by_cases h2:w.data.toList.head?=some 48→w.data.toList.length=1
   ·rw [if_neg (by
     rintro (h | h | ⟨h,h'⟩)
     ·exact hsz h
     ·omega
     ·have:=h2 (h48.1 h); rw [zAJ] at h'; omega)]
    by_cases h3:valF 0 w.data.toList≤9223372036854775808
    ·rw [if_pos h3]
     simp only [Bool.false_eq_true,if_false]
     by_cases h4:valF 0 w.data.toList < 9223372036854775808
     ·rw [if_neg (by omega),if_pos ⟨h1,h2,h4⟩,jP (by omega) (by omega)]
      congr 1; omega
     ·rw [if_pos (by omega),if_neg (fun h=>h4 h.2.2)]
    ·rw [if_neg h3,if_neg (fun h=>by omega)]
   ·rw [if_pos (.inr (.inr ⟨h48.2 (Classical.byContradiction fun hn=>h2 fun h=>absurd h hn),by
     rw [zAJ]
     have:0 < w.data.toList.length:=List.length_pos_iff.2 hne
     have:w.data.toList.length≠1:=fun e=>h2 fun _=>e
     omega⟩)),if_neg (fun h=>h2 h.2.1)]
  ·rw [if_pos (.inr (.inl (by omega))),if_neg (fun h=>h1 h.1)]
 have hlen:valF 0 w.data.toList < 9223372036854775808→(w.data.toList.head?=some 48→w.data.toList.length=1)→w.size≤19:=fun h1 h2=>by
  have e:=(zCH hd hne).2 h2
  have:=Lib.decDigits_length (valF 0 w.data.toList)
  rw [e] at this
  rw [zAJ,this]
  exact zKR (by omega) (by omega)
 rw [hp,hr]
 constructor
 ·intro n h
  split at h
  ·rename_i hh
   cases h
   rw [if_pos ⟨hlen hh.1 hh.2,hh.2,hh.1⟩]
  ·cases h
 ·intro h
  split at h
  ·cases h
  ·rename_i hh
   rw [if_neg (fun h=>hh ⟨h.2.2,h.2.1⟩)]
theorem zIY {w:ByteArray} {ds:List UInt8} (hw:w.data.toList=45::ds) (hd:∀ c ∈ ds,digC c) :
  (∀ n,pNum w=some n→rInt w=(n,true))∧(pNum w=none→(rInt w).2=false):=by
 have h45:uN w 0 45=true:=by rw [zDw hw]; rfl
 have hcut:zAA w=⟨⟨ds⟩⟩:=by
  unfold zAA; rw [h45,if_pos rfl]
  have:=uR (s:=w) (p:=1) (a:=ds) (b:=[]) (by rw [hw]; simp)
  rw [zAJ,hw]
  rw [←this]; simp [Nat.add_comm]
 have hsz:(ByteArray.mk ⟨ds⟩).size=ds.length:=rfl
 have hat:Lib.atoiAll w.data.toList=if ds=[] then .syntax else if valF 0 ds≤9223372036854775808 then .ok (-(valF 0 ds:Int)) else .range:=by
  rw [hw]
  unfold Lib.atoiAll Lib.parseMag
  simp only
  rw [if_pos (c:=(45:UInt8).toNat=43∨(45:UInt8).toNat=45) (.inr rfl)]
  by_cases h0:ds=[]
  ·rw [if_pos h0,if_pos h0]
  ·rw [if_neg h0,if_neg h0,zEn _ 0 hd (by omega)]
   have h45n:(45:UInt8).toNat=45:=rfl
   by_cases h1:valF 0 ds < 18446744073709551616
   ·rw [if_pos h1]
    simp only
    by_cases h2:valF 0 ds≤9223372036854775808
    ·rw [if_neg (fun h=>h.1 h45n),if_neg (by omega),if_pos h45n,if_pos h2]
    ·rw [if_neg (fun h=>h.1 h45n),if_pos ⟨h45n,by omega⟩,if_neg h2]
   ·rw [if_neg h1,if_neg (by omega)]
 have hit:∀ u:Nat,Lib.itoa (-(u:Int))=w.data.toList↔(0 < u∧Lib.decDigits u=ds):=fun u=>by
  unfold Lib.itoa
  rw [hw]
  by_cases hu:u=0
  ·subst hu
   rw [if_neg (by omega)]
   constructor
   ·intro e
    have e2:Lib.decDigits 0=[48]:=by rw [Lib.decDigits,dif_pos (by omega)]; rfl
    have e3:(-((0:Nat):Int)).toNat=0:=rfl
    rw [e3,e2] at e
    simp at e
   ·intro h; omega
  ·rw [if_pos (by omega)]
   have e3:(-(u:Int)).natAbs=u:=by omega
   rw [e3]
   constructor
   ·intro e; exact ⟨by omega,by simpa using e⟩
   ·intro h; rw [h.2]
 have hval:ds≠[]→(ds.head?=some 48→ds.length=1)→(0 < valF 0 ds↔ds.head?≠some 48):=fun hne hz=>by
  obtain ⟨c,r,rfl⟩:=List.exists_cons_of_ne_nil hne
  have hc:=hd c (.head _)
  unfold digC at hc
  constructor
  ·intro h e
   have:=hz e
   have hr:r=[]:=by simpa using this
   simp only [List.head?_cons,Option.some.injEq] at e
   rw [e] at h
   rw [hr,jM,zAx] at h
   simp at h
  ·intro h
   have:=zE0 r (0 * 10+(c.toNat - 48))
   have h48:c.toNat≠48:=fun e=>h (by simp only [List.head?_cons,Option.some.injEq]; exact UInt8.toNat_inj.1 e)
   rw [jM]
   generalize valF (0 * 10+(c.toNat - 48)) r=v at this ⊢
   omega
 have hp:pNum w=if ds≠[]∧valF 0 ds≤9223372036854775808∧ds.head?≠some 48 then some (-(valF 0 ds:Int)) else none:=by
  unfold pNum
  rw [hat]
  by_cases h0:ds=[]
  ·rw [if_pos h0,if_neg (fun h=>h.1 h0)]
  ·rw [if_neg h0]
   by_cases h2:valF 0 ds≤9223372036854775808
   ·rw [if_pos h2]
    simp only
    by_cases h3:ds.head?=some 48
    ·rw [if_neg (c:=ds≠[]∧_) (fun h=>h.2.2 h3),if_neg]
     intro e
     obtain ⟨e1,e2⟩:=(hit _).1 e
     have hz:=(zCH hd h0).1 e2
     exact (hval h0 hz).1 e1 h3
    ·rw [if_pos (c:=ds≠[]∧_) ⟨h0,h2,h3⟩,if_pos]
     exact (hit _).2 ⟨(hval h0 (fun e=>absurd e h3)).2 h3,(zCH hd h0).2 (fun e=>absurd e h3)⟩
   ·rw [if_neg h2,if_neg (fun h=>h2 h.2.1)]
 have h48:ds≠[]→(uN ⟨⟨ds⟩⟩ 0 48=true↔ds.head?=some 48):=fun hne=>by
  obtain ⟨c,r,rfl⟩:=List.exists_cons_of_ne_nil hne
  rw [zDw (s:=⟨⟨c::r⟩⟩) rfl]
  simp only [decide_eq_true_eq,List.head?_cons,Option.some.injEq]
  constructor
  ·intro e; exact UInt8.toNat_inj.1 (by show c.toNat=48; omega)
  ·rintro rfl; rfl
 have hlp:uJ ⟨⟨ds⟩⟩ (ByteArray.mk ⟨ds⟩).size 0 0=if valF 0 ds≤9223372036854775808 then some (-(valF 0 ds:Int)) else none:=by
  have:=zF6 ⟨⟨ds⟩⟩ hd (ByteArray.mk ⟨ds⟩).size 0 0 (by omega) (by omega)
  simpa using this
 have hlen:ds≠[]→valF 0 ds≤9223372036854775808→ds.head?≠some 48→ds.length≤19:=fun h0 h1 h2=>by
  have e:=(zCH hd h0).2 (fun e=>absurd e h2)
  have:=Lib.decDigits_length (valF 0 ds)
  rw [e] at this
  rw [this]
  exact zKR (by omega) (by omega)
 have hr:rInt w=if ds≠[]∧valF 0 ds≤9223372036854775808∧ds.head?≠some 48 then (-(valF 0 ds:Int),true) else (0,false):=by
  unfold rInt
  rw [hcut,h45,hlp,hsz]
  have hws:1 < w.size↔ds≠[]:=by
   rw [zAJ,hw]
   cases ds <;> simp
  by_cases h0:ds=[]
  ·rw [if_pos (.inl (by rw [h0]; rfl)),if_neg (fun h=>h.1 h0)]
  ·by_cases h2:ds.head?=some 48
   ·rw [if_pos (.inr (.inr ⟨(h48 h0).2 h2,hws.2 h0⟩)),if_neg (fun h=>h.2.2 h2)]
   ·by_cases h1:valF 0 ds≤9223372036854775808
    ·rw [if_neg (by
      rintro (h | h | h)
      ·exact h0 (List.length_eq_zero_iff.1 h)
      ·have:=hlen h0 h1 h2; omega
      ·exact h2 ((h48 h0).1 h.1)),if_pos h1,if_pos ⟨h0,h1,h2⟩]
     rfl
    ·rw [if_neg (c:=ds≠[]∧_) (fun h=>h1 h.2.1),if_neg h1]
     split <;> rfl
 rw [hp,hr]
 constructor
 ·intro n h
  split at h
  ·rename_i hh; cases h; rw [if_pos hh]
  ·cases h
 ·intro h
  split at h
  ·cases h
  ·rename_i hh; rw [if_neg hh]
end Go.Aug

/- Plain: a text's tokens, wherever its bytes stand. -/
namespace Go.Aug
set_option maxRecDepth 100000
set_option linter.unusedSimpArgs false
structure zA2 (t:Tok) (c:UInt8) (w:List UInt8):Prop where
 text:t.text=⟨⟨c::w⟩⟩
 blank:vC c=false
 pct:¬ (c.toNat:Int)=37
 word:∀ (s:ByteArray) (p:Nat) (r:List UInt8),s.data.toList.drop p=(c::w)++r→(t.kind=4∨∀ x,r.head?=some x→isWd x=false)→wV s p c=(t,true)
theorem zF5 {s:ByteArray} {p e:Nat} {c:UInt8} (hp:s[p]?=some c) (h:p < e) (he:e≤s.size):∃ w,s.data.toList.drop p=(c::w)++s.data.toList.drop e∧p+(w.length+1)=e∧∀ j,p < j→j < e→∃ x ∈ w,s[j]?=some x:=by
 have e1:s.data.toList.drop p=(s.data.toList.drop p).take (e - p)++s.data.toList.drop e:=by
  have:s.data.toList.drop e=(s.data.toList.drop p).drop (e - p):=by rw [List.drop_drop]; congr 1; omega
  rw [this,List.take_append_drop]
 have hl:s.data.toList.length=s.size:=by simp
 have hlen:((s.data.toList.drop p).take (e - p)).length=e - p:=by rw [List.length_take,List.length_drop,hl]; omega
 have hat:∀ j,p+j < e→((s.data.toList.drop p).take (e - p))[j]?=s[p+j]?:=by
  intro j hj
  rw [List.getElem?_take,if_pos (by omega),List.getElem?_drop,qK]
 generalize (s.data.toList.drop p).take (e - p)=u at e1 hlen hat
 cases u with
 | nil=>simp at hlen; omega
 | cons x w =>
  have h0:=hat 0 (by omega)
  rw [Nat.add_zero,hp] at h0
  simp at h0
  subst h0
  refine ⟨w,e1,by simp at hlen; omega,fun j h1 h2=>?_⟩
  have hj:=hat (j - p) (by omega)
  rw [show p+(j - p)=j by omega] at hj
  obtain ⟨i,hi⟩:∃ i,j - p=i+1:=⟨j - p - 1,by omega⟩
  rw [hi,List.getElem?_cons_succ] at hj
  have hlt:i < w.length:=by simp at hlen; omega
  exact ⟨w[i],List.getElem_mem hlt,by rw [←hj,List.getElem?_eq_getElem hlt]⟩
theorem zHm {q:UInt8→Bool} {s:ByteArray} {n p:Nat} {c:UInt8} (hp:s[p]?=some c) (hn:p < n) (hns:n≤s.size) (h0:∀ j,p < j→j < n→∃ x,s[j]?=some x∧q x=true) :
  ∃ w,s.data.toList.drop p=(c::w)++s.data.toList.drop (uD q s s.size n)∧p+(w.length+1)=uD q s s.size n∧(∀ x ∈ w,q x=true)∧∀ x,(s.data.toList.drop (uD q s s.size n)).head?=some x→q x=false:=by
 have hle:=zAd (p:=q) (s:=s) s.size n hns
 have hall:=zBl (q:=q) (s:=s) s.size n hns
 have hst:=zBZ (q:=q) (s:=s) _ n rfl
 rw [←zAp] at hst
 generalize uD q s s.size n=e at hle hall hst
 obtain ⟨w,h1,h2,_⟩:=zF5 hp (show p < e by omega) hle.2
 refine ⟨w,h1,h2,fun x hx=>?_,fun x hx=>?_⟩
 ·obtain ⟨i,hi⟩:=List.mem_iff_getElem?.1 hx
  have hil:=(List.getElem?_eq_some_iff.1 hi).1
  have hs:s[p+(i+1)]?=some x:=by
   rw [qK,←List.getElem?_drop,h1,List.getElem?_append_left (by simp; omega),List.getElem?_cons_succ]; exact hi
  rcases Nat.lt_or_ge (p+(i+1)) n with h | h
  ·obtain ⟨y,hy,hq⟩:=h0 _ (by omega) h
   rw [hs] at hy; cases hy; exact hq
  ·obtain ⟨y,hy,hq⟩:=hall _ h (by omega)
   rw [hs] at hy; cases hy; exact hq
 ·rw [List.head?_drop] at hx
  exact hst x (by rw [qK]; exact hx)
theorem zD3 {s:ByteArray} {p e:Nat} {c:UInt8} {w r:List UInt8} (h1:s.data.toList.drop p=(c::w)++r) (h2:p+(w.length+1)=e):s.extract p e=⟨⟨c::w⟩⟩:=by
 subst h2; exact uR (a:=c::w) h1
theorem zPl {s:ByteArray} {p:Nat} {c:UInt8} (hp:s[p]?=some c) (hb:vC c=false) (h37:¬ (c.toNat:Int)=37) (h:(wV s p c).2=true) :
  ∃ w r,s.data.toList.drop p=(c::w)++r∧zA2 (wV s p c).1 c w∧((wV s p c).1.kind=4∨∀ x,r.head?=some x→isWd x=false):=by
 have hlt:=zAZ hp
 unfold wV at h ⊢
 by_cases hl:uG c=true
 ·rw [if_pos hl] at h ⊢
  simp only [zBp] at h ⊢
  obtain ⟨k,hk⟩:∃ k,s.size=k+1:=⟨s.size - 1,by omega⟩
  have hst:uD (fun c=>uG c || isDig c) s s.size p=uD (fun c=>uG c || isDig c) s s.size (p+1):=by
   rw [zAp,zAp,zAV hp,if_pos (by rw [hl]; rfl)]
  obtain ⟨w,h1,h2,h3,h4⟩:=zHm (q:=fun c=>uG c || isDig c) hp (Nat.lt_succ_self p) hlt (fun j _ _=>by omega)
  rw [←hst] at h1 h2 h4
  clear hst
  generalize uD (fun c=>uG c || isDig c) s s.size p=e0 at h h1 h2 h4 ⊢
  have ht:=zD3 h1 h2
  rw [←h2,show p+(w.length+1) - p=w.length+1 by omega] at h
  rw [ht]
  refine ⟨w,_,h1,⟨rfl,hb,h37,fun s' p' r' hs hr=>?_⟩,.inr h4⟩
  have hr':∀ x,r'.head?=some x→isWd x=false:=by
   rcases hr with hr | hr
   ·split at hr <;> cases hr
   ·exact hr
  unfold wV
  rw [if_pos hl,zBp]
  have hsz:w.length+1≤s'.size:=by
   have:=congrArg List.length hs
   simp only [List.length_drop,List.length_append,List.length_cons,Array.length_toList] at this
   show w.length+1≤s'.data.size
   omega
  have e:=zDH (q:=fun c=>uG c || isDig c) (s:=s') (c::w) r' s'.size p' hs (fun x hx=>by
   rcases List.mem_cons.1 hx with rfl | hx
   ·simp [hl]
   ·exact h3 x hx) hr' (by simpa using hsz)
  rw [e,uR hs]
  congr 1
  rw [show p'+(c::w).length - p'=w.length+1 by simp]
  exact h
 ·rw [if_neg hl] at h ⊢
  by_cases hd:isDig c=true∨(c.toNat:Int)=45
  ·rw [if_pos hd] at h ⊢
   simp only [kP] at h ⊢
   obtain ⟨w,h1,h2,h3,h4⟩:=zHm (q:=isDig) hp (Nat.lt_succ_self p) hlt (fun j _ _=>by omega)
   generalize uD isDig s s.size (p+1)=e0 at h h1 h2 h4 ⊢
   have ht:=zD3 h1 h2
   rw [ht] at h ⊢
   obtain ⟨ha,hb2⟩:=Bool.and_eq_true_iff.1 h
   refine ⟨w,_,h1,⟨rfl,hb,h37,fun s' p' r' hs hr=>?_⟩,.inr fun x hx=>?_⟩
   ·have hr':∀ x,r'.head?=some x→isWd x=false:=by
     rcases hr with hr | hr
     ·cases hr
     ·exact hr
    have hsz:=congrArg List.length hs
    simp only [List.length_drop,List.length_append,List.length_cons,Array.length_toList] at hsz
    have hsz':s'.data.size=s'.size:=rfl
    have e:=zDH (q:=isDig) (s:=s') w r' s'.size (p'+1) (zAz (a:=[c]) hs) h3 (fun x hx=>by
     have:=hr' x hx
     simp only [isWd,Bool.or_eq_false_iff] at this
     exact this.2) (by omega)
    have e2:p'+1+w.length=p'+(c::w).length:=by simp only [List.length_cons]; omega
    unfold wV
    rw [if_neg hl,if_pos hd,kP,e,e2,uR hs]
    congr 1
    rw [ha,Bool.true_and,Bool.or_eq_true]
    cases r' with
    | nil =>
     left
     simp only [List.length_nil] at hsz
     simp only [decide_eq_true_eq,List.length_cons]
     omega
    | cons x r' =>
     right
     have hx:=(zFc (zAz hs)).1
     have:=hr' x rfl
     simp only [isWd,Bool.or_eq_false_iff] at this
     simp only [zG2,hx,this.1,Bool.not_false]
   ·have hq:=h4 x hx
    rw [List.head?_drop,←qK] at hx
    have hlt2:=zAZ hx
    rcases Bool.or_eq_true_iff.1 hb2 with hh | hh
    ·have:=of_decide_eq_true hh; omega
    ·simp only [zG2,hx,Bool.not_eq_true'] at hh
     simp only [isWd,hh,hq,Bool.or_false]
  ·rw [if_neg hd] at h ⊢
   by_cases h58:(c.toNat:Int)=58∧p+1 < s.size∧uN s (p+1) 45=true
   ·rw [if_pos h58] at h ⊢
    obtain ⟨x,hx⟩:=zHI h58.2.1
    have hx45:x=45:=by
     have:=h58.2.2
     simp only [uN,hx,decide_eq_true_eq] at this
     exact UInt8.toNat_inj.1 (by show x.toNat=45; omega)
    have hc58:c=58:=UInt8.toNat_inj.1 (by show c.toNat=58; omega)
    subst hx45; subst hc58
    obtain ⟨w,h1,h2,h3⟩:=zF5 hp (show p < p+2 by omega) (by omega)
    have hw:w=[45]:=by
     obtain ⟨y,hy,hs⟩:=h3 (p+1) (by omega) (by omega)
     rw [hx] at hs; cases hs
     match w,h2,hy with
     | [z],_,hy=>rw [List.mem_singleton.1 hy]
     | [],h2,_=>simp at h2
     | _::_::_,h2,_=>simp at h2
    subst hw
    refine ⟨[45],_,h1,⟨rfl,hb,h37,fun s' p' r' hs _=>?_⟩,.inl rfl⟩
    have hb1:=zFc (zAz (a:=[58]) hs)
    unfold wV
    rw [if_neg hl,if_neg hd,if_pos ⟨by decide,hb1.2,by simp only [uN]; rw [show p'+1=p'+[(58:UInt8)].length from rfl,hb1.1]; decide⟩]
   ·rw [if_neg h58] at h ⊢
    by_cases hm:kMarks.contains c.toNat=true
    ·rw [if_pos hm] at h ⊢
     obtain ⟨w,h1,h2,h3⟩:=zF5 hp (show p < p+1 by omega) hlt
     have hw:w=[]:=List.length_eq_zero_iff.1 (by omega)
     subst hw
     have ht:s.extract p (p+1)=⟨⟨[c]⟩⟩:=uR (a:=[c]) h1
     refine ⟨[],_,h1,⟨ht,hb,h37,fun s' p' r' hs _=>?_⟩,.inl rfl⟩
     have hc58:¬ (c.toNat:Int)=58:=fun hc=>by
      have:c.toNat=58:=by omega
      rw [this] at hm; exact absurd hm (by decide)
     unfold wV
     rw [if_neg hl,if_neg hd,if_neg (fun hh=>hc58 hh.1),if_pos hm,ht]
     have:=uR (a:=[c]) hs
     simp only [List.length_cons,List.length_nil,Nat.zero_add] at this
     rw [this]
    ·rw [if_neg hm] at h; cases h
inductive Lexed:Bool→List UInt8→List Tok→Prop
 | nil (cm:Bool):Lexed cm [] []
 | com {c:UInt8} {rest:List UInt8} {ts:List Tok} (h:Lexed (!decide ((c.toNat:Int)=10)) rest ts):Lexed true (c::rest) ts
 | blank {c:UInt8} {rest:List UInt8} {ts:List Tok} (hb:vC c=true) (h:Lexed false rest ts):Lexed false (c::rest) ts
 | pct {c:UInt8} {rest:List UInt8} {ts:List Tok} (hb:vC c=false) (hc:(c.toNat:Int)=37) (h:Lexed true rest ts):Lexed false (c::rest) ts
 | tok {c:UInt8} {w rest:List UInt8} {t:Tok} {ts:List Tok} (ht:zA2 t c w) (hr:t.kind=4∨∀ x,rest.head?=some x→isWd x=false) (h:Lexed false rest ts):Lexed false ((c::w)++rest) (t::ts)
theorem zCh {s:ByteArray}:∀ (k p:Nat) (cm:Bool) (pl:List Int) (acc l:List Tok),s.size≤k+p→(rAll s k p cm pl acc).2=(l,true)→∃ ts,l=acc++ts∧Lexed cm (s.data.toList.drop p) ts
 | 0,p,cm,pl,acc,l,hk,h=>by
  simp only [rAll,Prod.mk.injEq,and_true] at h
  refine ⟨[],by simp [h], ?_⟩
  rw [List.drop_eq_nil_iff.2 (by simp; omega)]
  exact .nil cm
 | k+1,p,cm,pl,acc,l,hk,h=>by
  simp only [rAll] at h
  cases hc:s[p]? with
  | none =>
   simp only [hc,Prod.mk.injEq,and_true] at h
   refine ⟨[],by simp [h], ?_⟩
   have:s.size≤p:=by
    apply Classical.byContradiction; intro hn
    obtain ⟨x,hx⟩:=zHI (s:=s) (n:=p) (by omega)
    rw [hx] at hc; cases hc
   rw [List.drop_eq_nil_iff.2 (by simpa using this)]
   exact .nil cm
  | some c =>
   simp only [hc] at h
   have hd:s.data.toList.drop p=c::s.data.toList.drop (p+1):=by
    rw [qK] at hc
    obtain ⟨hlt,he⟩:=List.getElem?_eq_some_iff.1 hc
    rw [List.drop_eq_getElem_cons hlt,he]
   by_cases h1:cm=true
   ·subst h1
    rw [if_pos rfl] at h
    obtain ⟨ts,e,hx⟩:=zCh k (p+1) _ pl acc l (by omega) h
    exact ⟨ts,e,by rw [hd]; exact .com hx⟩
   ·have h1':cm=false:=by simpa using h1
    subst h1'
    rw [if_neg h1] at h
    cases h2:vC c with
    | true =>
     rw [h2,if_pos rfl] at h
     obtain ⟨ts,e,hx⟩:=zCh k (p+1) _ pl acc l (by omega) h
     exact ⟨ts,e,by rw [hd]; exact .blank h2 hx⟩
    | false =>
     rw [h2,if_neg Bool.false_ne_true] at h
     by_cases h3:(c.toNat:Int)=37
     ·rw [if_pos h3] at h
      obtain ⟨ts,e,hx⟩:=zCh k (p+1) _ pl acc l (by omega) h
      exact ⟨ts,e,by rw [hd]; exact .pct h2 h3 hx⟩
     ·rw [if_neg h3] at h
      by_cases h4:(wV s p c).2=true
      ·rw [if_pos h4] at h
       obtain ⟨w,r,e1,e2,e3⟩:=zPl hc h2 h3 h4
       have hsz:=zAG hc h4
       obtain ⟨ts,e,hx⟩:=zCh k _ _ _ _ l (by omega) h
       refine ⟨(wV s p c).1::ts,by rw [e]; simp, ?_⟩
       have hr:s.data.toList.drop (p+(wV s p c).1.text.size)=r:=by
        have:(wV s p c).1.text.size=(c::w).length:=by rw [e2.text]; rfl
        rw [this]; exact zAz e1
       rw [hr] at hx
       rw [e1]
       exact .tok e2 e3 hx
      ·rw [if_neg h4] at h; cases h
theorem Lexed.to {cm:Bool} {rest:List UInt8} {ts:List Tok} (h:Lexed cm rest ts):∀ (s:ByteArray) (p:Nat),s.data.toList.drop p=rest→∀ (k:Nat),rest.length≤k→∀ (pl:List Int) (acc:List Tok),(rAll s k p cm pl acc).2=(acc++ts,true):=by
 induction h with
 | nil cm =>
  intro s p hs k _ pl acc
  cases k with
  | zero=>simp [rAll]
  | succ k=>simp [rAll,zKv hs]
 | com _ ih =>
  intro s p hs k hk pl acc
  cases k with
  | zero=>simp at hk
  | succ k =>
   simp only [rAll,(zFc hs).1,if_true]
   exact ih s (p+1) (zAz (a:=[_]) hs) k (by simpa using hk) pl acc
 | blank hb _ ih =>
  intro s p hs k hk pl acc
  cases k with
  | zero=>simp at hk
  | succ k =>
   simp only [rAll,(zFc hs).1,Bool.false_eq_true,if_false,hb,if_true]
   exact ih s (p+1) (zAz (a:=[_]) hs) k (by simpa using hk) pl acc
 | pct hb hc _ ih =>
  intro s p hs k hk pl acc
  cases k with
  | zero=>simp at hk
  | succ k =>
   simp only [rAll,(zFc hs).1,Bool.false_eq_true,if_false,hb,hc,if_true]
   exact ih s (p+1) (zAz (a:=[_]) hs) k (by simpa using hk) pl acc
 | @tok c w rest t ts ht hr _ ih =>
  intro s p hs k hk pl acc
  cases k with
  | zero=>simp at hk
  | succ k =>
   have hsz:t.text.size=(c::w).length:=by rw [ht.text]; rfl
   simp only [rAll,(zFc hs).1,Bool.false_eq_true,if_false,ht.blank,ht.pct,ht.word s p rest hs hr,if_true,hsz]
   rw [ih s _ (zAz hs) k (by simp only [List.length_append,List.length_cons] at hk; omega)]
   simp
theorem rlex_lexed {s:ByteArray} {ts:List Tok}:rlex s=(ts,0)↔s.size≤16384∧Lexed false s.data.toList ts:=by
 constructor
 ·intro h
  unfold rlex at h
  split at h
  ·cases h
  ·rename_i hs
   split at h
   ·rename_i ht
    obtain ⟨rfl,_⟩:=Prod.mk.inj h
    obtain ⟨ts,e,hx⟩:=zCh (s:=s) s.size 0 false [] [] _ (by omega) (Prod.ext rfl ht)
    refine ⟨by omega, ?_⟩
    have e':(rAll s s.size 0 false [] []).2.1=[]++ts:=e
    rw [e']; exact hx
   ·cases h
 ·rintro ⟨hs,h⟩
  have:=h.to s 0 rfl s.size (by simp) [] []
  unfold rlex
  rw [if_neg (by omega),this]
  simp
def zVb (b:List UInt8):List Tok→List UInt8
 | []=>[]
 | t::ts=>t.text.data.toList++(b++zVb b ts)

def Par {α:Type} (l:List Tok) (f:RdS→α×RdS) (a:List Tok) (x:α) (b:List Tok):Prop:=∀ p,l.drop p=a→∃ q,f ⟨p,0⟩=(x,⟨q,0⟩)∧l.drop q=b
theorem zBo {l b:List Tok} {p:Nat} {t:Tok} (h:l.drop p=t::b):l[p]?=some t∧p < l.length∧rend l ⟨p,0⟩=false∧l.drop (p+1)=b:=by
 have h1:l[p]?=some t:=by rw [←List.head?_drop,h]; rfl
 have h2:=(List.getElem?_eq_some_iff.1 h1).1
 refine ⟨h1,h2,by simp [rend]; omega, ?_⟩
 rw [←List.drop_drop,h]; rfl
theorem zLN {l:List Tok} {p:Nat} (h:l.drop p=[]):rend l ⟨p,0⟩=true:=by
 have:=List.drop_eq_nil_iff.1 h
 simp [rend]; omega
def uH (t:Tok) (m:ByteArray):Prop:=t.text=m∧(t.kind=1∨t.kind=4)
theorem zFz {l b:List Tok} {p:Nat} {t:Tok} {m:ByteArray} (h:l.drop p=t::b):ris l m ⟨p,0⟩=true↔uH t m:=by
 obtain ⟨h1,h2,h3,h4⟩:=zBo h
 simp [ris,h3,h1,uH]
theorem Par.got {l b:List Tok} {t:Tok} {m:ByteArray} (h:uH t m):Par l (rgot l m) (t::b) true b:=fun p hp=>by
 refine ⟨p+1, ?_,(zBo hp).2.2.2⟩
 rw [rgot,if_pos ((zFz hp).2 h)]
theorem Par.gotNo {l b:List Tok} {t:Tok} {m:ByteArray} (h:¬ uH t m):Par l (rgot l m) (t::b) false (t::b):=fun p hp=>by
 refine ⟨p, ?_,hp⟩
 rw [rgot,if_neg (fun hh=>h ((zFz hp).1 hh))]
theorem Par.gotEnd {l:List Tok} {m:ByteArray}:Par l (rgot l m) [] false []:=fun p hp=>by
 refine ⟨p, ?_,hp⟩
 rw [rgot,if_neg (by simp [ris,zLN hp])]
theorem zAv {l b:List Tok} {t:Tok} {m:ByteArray} {p:Nat} (hp:l.drop p=t::b) (h:uH t m):yR l m ⟨p,0⟩=⟨p+1,0⟩∧l.drop (p+1)=b:=by
 refine ⟨?_,(zBo hp).2.2.2⟩
 rw [yR,if_pos rfl,rgot,if_pos ((zFz hp).2 h)]
 rfl
theorem Par.word {l b:List Tok} {t:Tok} {k:Int} (h1:t.kind=k) (h2:¬ (k=1∧xF t.text=true)):Par l (zS l k) (t::b) t.text b:=fun p hp=>by
 obtain ⟨a1,a2,a3,a4⟩:=zBo hp
 refine ⟨p+1, ?_,a4⟩
 simp only [zS,a3,Bool.false_eq_true,if_false,a1]
 rw [if_neg (by rintro (h | h); exact h h1; exact h2 h)]
theorem qP {l:List Tok} {n:Nat} {s:RdS} (h:n≤64):yD l n s=s:=by rw [yD,if_neg (by omega)]
def tokOpen:Tok:=⟨4,⟨#[40]⟩,0⟩
def vE:Tok:=⟨4,⟨#[41]⟩,0⟩
def wU:Tok:=⟨4,⟨#[44]⟩,0⟩
def zAK:Tok:=⟨4,⟨#[46]⟩,0⟩
inductive Tail {α:Type} (l:List Tok) (f:RdS→α×RdS):List Tok→List α→List Tok→Prop
 | close (b:List Tok):Tail l f (vE::b) [] b
 | comma {a c b:List Tok} {x:α} {ys:List α} (h:Par l f a x c) (r:Tail l f c ys b):Tail l f (wU::a) (x::ys) b
theorem zH7 {l b:List Tok} {p n:Nat} (hp:l.drop p=vE::b) (hn:n≠0):xK l n ⟨p,0⟩=(false,⟨p+1,0⟩)∧l.drop (p+1)=b:=by
 have h:uH vE ⟨#[41]⟩:=⟨rfl,.inr rfl⟩
 refine ⟨?_,(zBo hp).2.2.2⟩
 have hg:rgot l ⟨#[41]⟩ ⟨p,0⟩=(true,⟨p+1,0⟩):=by rw [rgot,if_pos ((zFz hp).2 h)]
 rw [xK,if_neg hn,hg,if_pos (.inl rfl)]
theorem zH8 {l a:List Tok} {p n:Nat} (hp:l.drop p=wU::a) (hn:n≠0) (h8:n≠8):xK l n ⟨p,0⟩=(true,⟨p+1,0⟩)∧l.drop (p+1)=a:=by
 have h:uH wU ⟨#[44]⟩:=⟨rfl,.inr rfl⟩
 have hno:¬ uH wU ⟨#[41]⟩:=fun hh=>absurd hh.1 (by decide)
 have hg:rgot l ⟨#[41]⟩ ⟨p,0⟩=(false,⟨p,0⟩):=by rw [rgot,if_neg (fun hh=>hno ((zFz hp).1 hh))]
 have hnd:=zAv hp h
 refine ⟨?_,hnd.2⟩
 rw [xK,if_neg hn,hg,if_neg (by simp),hnd.1,xZ,if_neg (by omega)]
 rfl
theorem zJW {l a:List Tok} {p:Nat} (hp:l.drop p=tokOpen::a):xK l 0 ⟨p,0⟩=(true,⟨p+1,0⟩)∧l.drop (p+1)=a:=by
 have h:uH tokOpen ⟨#[40]⟩:=⟨rfl,.inr rfl⟩
 have hg:rgot l ⟨#[40]⟩ ⟨p,0⟩=(true,⟨p+1,0⟩):=by rw [rgot,if_pos ((zFz hp).2 h)]
 refine ⟨?_,(zBo hp).2.2.2⟩
 rw [xK,if_pos rfl,hg,if_pos rfl,xZ,if_neg (by omega)]
 rfl
theorem zJO {α:Type} {l:List Tok} {f:RdS→α×RdS} {a b:List Tok} {ys:List α} (h:Tail l f a ys b):∀ (xs:List α) (k p:Nat),l.drop p=a→xs≠[]→xs.length+ys.length≤8→ys.length+1≤k →
  ∃ q,yC f l k xs ⟨p,0⟩=(xs++ys,⟨q,0⟩)∧l.drop q=b:=by
 induction h with
 | close b =>
  intro xs k p hp hx _ hk
  cases k with
  | zero=>simp at hk
  | succ k =>
   obtain ⟨h1,h2⟩:=zH7 hp (n:=xs.length) (by simp [hx])
   refine ⟨p+1, ?_,h2⟩
   simp only [yC,if_true,h1,Bool.false_eq_true,if_false,List.append_nil]
 | @comma a c b x ys hf _ ih =>
  intro xs k p hp hx h8 hk
  cases k with
  | zero=>simp at hk
  | succ k =>
   simp only [List.length_cons] at h8 hk
   obtain ⟨h1,h2⟩:=zH8 hp (n:=xs.length) (by simp [hx]) (by omega)
   obtain ⟨q,h3,h4⟩:=hf _ h2
   obtain ⟨r,h5,h6⟩:=ih (xs++[x]) k q h4 (by simp) (by simp only [List.length_append,List.length_cons,List.length_nil]; omega) (by omega)
   refine ⟨r, ?_,h6⟩
   simp only [yC,if_true,h1,h3,h5]
   simp
theorem Par.args {α:Type} {l a c b:List Tok} {f:RdS→α×RdS} {x:α} {ys:List α} (hf:Par l f a x c) (ht:Tail l f c ys b) (h8:ys.length≤7):Par l (yC f l 10 []) (tokOpen::a) (x::ys) b:=fun p hp=>by
 obtain ⟨h1,h2⟩:=zJW hp
 obtain ⟨q,h3,h4⟩:=hf _ h2
 obtain ⟨r,h5,h6⟩:=zJO ht [x] 9 q h4 (by simp) (by simp only [List.length_cons,List.length_nil]; omega) (by omega)
 refine ⟨r, ?_,h6⟩
 have e:yC f l 10 [] ⟨p,0⟩=yC f l 9 [x] ⟨q,0⟩:=by
  rw [yC,if_pos rfl]
  simp only [List.length_nil,h1,if_true,h3,List.nil_append]
 rw [e,h5]; rfl
inductive zJm (l:List Tok):List Tok→List It→Prop
 | nil:zJm l [] []
 | cons {a b:List Tok} {it:It} {is:List It} (hne:a≠[]) (h:Par l (uL l) a it (zAK::b)) (r:zJm l b is):zJm l a (it::is)
theorem zLA {l a:List Tok} {is:List It} (h:zJm l a is):∀ (xs:List It) (k p:Nat),l.drop p=a→xs.length+is.length≤512→is.length+1≤k→∃ q,wW l k xs ⟨p,0⟩=(xs++is,⟨q,0⟩)∧l.drop q=[]:=by
 induction h with
 | nil =>
  intro xs k p hp _ hk
  cases k with
  | zero=>simp at hk
  | succ k=>exact ⟨p,by simp [wW,zLN hp],hp⟩
 | @cons a b it is hne hi _ ih =>
  intro xs k p hp h512 hk
  cases k with
  | zero=>simp at hk
  | succ k =>
   simp only [List.length_cons] at h512 hk
   obtain ⟨q,h1,h2⟩:=hi p hp
   obtain ⟨h3,h4⟩:=zAv (m:=kDot) h2 ⟨rfl,.inr rfl⟩
   obtain ⟨r,h5,h6⟩:=ih (xs++[it]) k (q+1) h4 (by simp only [List.length_append,List.length_cons,List.length_nil]; omega) (by omega)
   refine ⟨r, ?_,h6⟩
   obtain ⟨t,a',rfl⟩:∃ t a',a=t::a':=by cases a with | nil=>exact absurd rfl hne | cons t a'=>exact ⟨t,a',rfl⟩
   have hr:=(zBo hp).2.2.1
   rw [wW,hr,if_neg Bool.false_ne_true,if_neg (by omega),h1]
   simp only
   rw [h3,h5]
   simp
theorem zJ1 {l:List Tok} {is:List It} (h:zJm l l is) (hn:is.length≤512) (hl:is.length≤l.length):qD l 0=(is,0):=by
 obtain ⟨q,h1,h2⟩:=zLA h [] (l.length+1) 0 rfl (by simpa using hn) (by omega)
 have hq:l.length≤q:=List.drop_eq_nil_iff.1 h2
 have hd:zBU l ⟨q,0⟩=⟨q,0⟩:=by rw [zBU,if_neg (by simp only [true_and]; omega)]
 simp only [qD,h1,List.nil_append,hd,ne_eq,not_true_eq_false,if_false]

section
variable {l l':List Tok} {d m:Nat} {P:Prop} {s:RdS} {t:ByteArray}
theorem zPW (h:(rgot l t s).1=true):s.err=0∧s.pos < l.length∧∃ k,l[s.pos]?=some k:=by
 obtain ⟨h1,_,h3⟩:=wA h
 exact ⟨h1,h3,_,List.getElem?_eq_getElem h3⟩
theorem zNg (h:(yR l t s).err=0):s.err=0∧(rgot l t s).1=true∧yR l t s=(rgot l t s).2:=by
 have h0:=(zAc h).1
 unfold yR at h ⊢
 rw [if_pos h0] at h ⊢
 by_cases hg:(rgot l t s).1=true
 ·rw [if_pos hg]; exact ⟨h0,hg,rfl⟩
 ·rw [if_neg hg] at h; exact absurd h (vM (by decide) _)
theorem zPV {e:Int} (h:e=3):e≠0:=by omega
theorem zJ2 {f n:Nat} (h:(yD l n s).err≠0):(yS (f+1) l n s).2.err=(yD l n s).err:=by
 have hr:rend l (yD l n s)=true:=by simp [rend,h]
 simp only [yS,hr,if_true,jK h,yJ h]
theorem zJ4 {f n:Nat} (h:(yD l n s).err≠0):(xN (f+1) l n s).2.err=(yD l n s).err:=by
 have hr:rend l (yD l n s)=true:=by simp [rend,h]
 simp only [xN,zAr,hr,if_true,wZ h,jK h,yJ h]
 simp
theorem zF8 {n:Nat} (he:s.err=0) (hn:64 < n) (hl:s.pos < l.length):(yD l n s).err=3:=by rw [zBv he,if_pos ⟨hn,hl⟩]
theorem zOA {q:RdS→Gl×RdS} {mk:ByteArray} {gs:List Gl} (h:(rgot l mk s).1=false) (k:Nat):jV q mk l k gs s=(gs,s):=by
 cases k with
 | zero=>rfl
 | succ k=>simp only [jV,h,Bool.false_eq_true,if_false]
theorem zLv {f n:Nat} (hf:0 < f) (h:rend l s=true):(zBf f l n s).2.err≠0:=by
 have ht:=kJ (n:=n+1) hf h
 simp only [zBf,wZ ht,Bool.false_eq_true,if_false]
 split
 ·exact ht
 ·rw [uC,if_neg ht]; exact ht
theorem zLE {f n:Nat} (hf:0 < f) (h:rend l s=true):(xP (f+1) l n s).2.err≠0:=by
 have h1:yD l n s=s:=by unfold yD; rw [if_neg (by simp [h])]
 simp only [xP,h1,zGf h,Bool.false_eq_true,if_false]
 exact zLv hf h
theorem zLu {k:Nat} {cs:List Ct} (h:s.err≠0):qA l k cs s=(cs,s):=by
 cases k with
 | zero=>rfl
 | succ k=>simp only [qA,wZ h,Bool.false_eq_true,if_false]
theorem zOu {cs:List Ct} (h:(rgot l kBar s).1=false) (k:Nat):qA l k cs s=(cs,s):=by
 cases k with
 | zero=>rfl
 | succ k=>simp only [qA,h,Bool.false_eq_true,if_false]
theorem zOv (h:s.err≠0):(rdet l s).2.err≠0:=by
 simp only [rdet,wZ h,Bool.false_eq_true,if_false]
 rw [uC,if_neg h]; exact h
end
theorem zBV {l:List Tok} {k:Nat} {is:List It} {s:RdS} (h:rend l s=true):wW l k is s=(is,s):=by
 cases k with
 | zero=>rfl
 | succ k=>simp only [wW,h,if_true]
theorem zJU {l:List Tok} {k:Nat} {is:List It} {s:RdS} (hr:rend l s=false) (h:(wW l (k+1) is s).2.err=0) :
  is.length≠512∧(uL l s).2.err=0∧(yR l kDot (uL l s).2).err=0∧s.pos < (yR l kDot (uL l s).2).pos∧(uL l s).2.pos < l.length∧wW l (k+1) is s=wW l k (is++[(uL l s).1]) (yR l kDot (uL l s).2):=by
 simp only [wW,hr,Bool.false_eq_true,if_false] at h ⊢
 by_cases h5:is.length=512
 ·rw [if_pos h5] at h
  exact absurd h (vM (by decide) _)
 ·rw [if_neg h5] at h
  have hn:(yR l kDot (uL l s).2).err=0:=by
   apply Classical.byContradiction; intro hn
   rw [zBV (by simp [rend,hn])] at h
   exact hn h
  obtain ⟨h1,h2⟩:=zAc hn
  obtain ⟨_,hg,_⟩:=zNg hn
  have:=(zAn l).ge s
  exact ⟨h5,h1,hn,by omega,(zPW hg).2.1,by rw [if_neg h5]⟩
theorem rsource_ok {l:List Tok} {is:List It}:qD l 0=(is,0)↔(wW l (l.length+1) [] ⟨0,0⟩).1=is∧(wW l (l.length+1) [] ⟨0,0⟩).2.err=0∧l.length≤(wW l (l.length+1) [] ⟨0,0⟩).2.pos:=by
 unfold qD zBU
 generalize wW l (l.length+1) [] ⟨0,0⟩=r
 obtain ⟨r1,p,e⟩:=r
 by_cases h:e=0∧p < l.length
 ·obtain ⟨rfl,h⟩:=h
  simp [h]
 ·simp only [h,if_false]
  by_cases he:e=0
  ·subst he; simp at h; simp [h]
  ·simp [he]
end Go.Aug

/- Plain: texts one behind the other, spread texts, texts in brackets. -/
namespace Go.Aug
set_option maxRecDepth 100000
set_option linter.unusedSimpArgs false
theorem zEK {l:List Tok} {e:Int} (he:e≠0):qD l e=([],e):=by
 unfold qD
 rw [zBV (by simp [rend,he])]
 simp only [zBU,he,false_and,if_false,ne_eq,not_false_eq_true,if_true]
theorem rsrc_ok {s:ByteArray} {is:List It}:qD (rlex s).1 (rlex s).2=(is,0)↔∃ l,rlex s=(l,0)∧qD l 0=(is,0):=by
 obtain ⟨l,e⟩:=rlex s
 by_cases he:e=0
 ·subst he
  exact ⟨fun h=>⟨l,rfl,h⟩,fun ⟨l',h1,h2⟩=>by obtain ⟨rfl,_⟩:=Prod.mk.inj h1; exact h2⟩
 ·simp only [zEK he]
  refine ⟨fun h=>?_,fun ⟨l',h1,_⟩=>?_⟩
  ·exact absurd (Prod.mk.inj h).2 he
  ·exact absurd (Prod.mk.inj h1).2 he
def zYa:List ByteArray:=[⟨#[32]⟩,⟨#[10]⟩,⟨#[32,37,32,115,111,10]⟩,⟨#[9,9]⟩,⟨#[13,10]⟩]
theorem zFL:zA2 tokOpen 40 []:=⟨rfl,by decide,by decide,fun s p r hs _=>by
 unfold wV
 have e:=uR (a:=[40]) hs
 simp only [List.length_cons,List.length_nil,Nat.zero_add] at e
 rw [if_neg (by decide),if_neg (by decide),if_neg (fun h=>absurd h.1 (by decide)),if_pos (by decide),e]
 rfl⟩
theorem zIo:zA2 vE 41 []:=⟨rfl,by decide,by decide,fun s p r hs _=>by
 unfold wV
 have e:=uR (a:=[41]) hs
 simp only [List.length_cons,List.length_nil,Nat.zero_add] at e
 rw [if_neg (by decide),if_neg (by decide),if_neg (fun h=>absurd h.1 (by decide)),if_pos (by decide),e]
 rfl⟩
theorem join_one (kind:Int) (g:Gl):kR kind [g]=g:=by simp [kR]
theorem zJZ {f n:Nat} {l:List Tok} {s s':RdS} (hn:n≤64) (h1:(rgot l kX s).1=false) (h2:(rgot l kU s).1=false) (h3:(rgot l kNot s).1=false) (h4:(rgot l vT s).1=false) (h5:(rgot l kTry s).1=false) (h6:rgot l kL s=(true,s')) :
  xP (f+1) l n s=((zA1 f l (n+1) s').1,yR l zBa (zA1 f l (n+1) s').2):=by
 simp only [xP,qP (l:=l) (s:=s) hn,h1,h2,h3,h4,h5,h6,Bool.false_eq_true,if_false,if_true,zA1]

section
variable {l:List Tok} {s:RdS}
end
end Go.Aug
