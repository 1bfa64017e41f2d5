/- The abstract layer: abstract values and heaps, what code does to them, the conditions of its operations as equations; no conditions of its own. -/
import Derived.Calls
import Derived.Laws.AppendOwn
import Derived.Laws.OwnMore
import Derived.Laws.Tables
import Derived.Sort.LoopGhostIn
import Derived.RangeFuncNested
import Derived.Laws.MakeOwn
import Derived.Laws.Strings
import Derived.LaidEql
import Derived.Laws.StructEq
import Derived.MapKept
import Derived.Lib.AppendStr
import Derived.Lib.UnsafeStr
set_option linter.all false
set_option linter.unusedVariables false
set_option linter.unusedSimpArgs false
set_option linter.unusedSectionVars false

/-
  The abstract layer, part A: abstract values, what they represent in a world, abstract heaps, how a world may go on.
-/
namespace Go.Aug
inductive D where
  | int (k:IntKind) (n:Int)
  | bool (b:Bool)
  | str (s:ByteArray)
  | slice (es:List D)
  | agg (cs:List D)
  | sent (g:Nat)
  | raw (v:Value)
  deriving Inhabited
def D.cells:D→List D
  | .agg cs=>cs
  | x=>[x]
def flat (es:List D):List D:=es.flatMap D.cells
structure Env where
  T:TypeId
  TE:TypeId
  eb:Nat→Addr
  G:Nat→Option D
  M:Nat→Option Obj
  nz:TypeId→Bool
  pan:FuncId→Bool
def Env.E (V:Env) (g:Nat):Value:=.iface V.T (.pointer (some (V.eb g)))
inductive RepD (V:Env) (w:World) (Z:Nat→Prop):Value→D→Prop
  | int (k n):RepD V w Z (.int k n) (.int k n)
  | bool (b):RepD V w Z (.bool b) (.bool b)
  | str (s):RepD V w Z (.string s) (.str s)
  | raw (v) (h:v.oneCell'=true):RepD V w Z v (.raw v)
  | sent (g):RepD V w Z (V.E g) (.sent g)
  | empty (a cap):RepD V w Z (.slice a 0 cap) (.slice [])
  | slice (b o cap:Nat) (es:List D) (sz:Nat) (cv:Nat→Value) (hk:es.length≤cap) (hz:¬ Z b) (hb:b < w.heap.size)
      (hs:∀ e ∈ es,(D.cells e).length=sz)
      (hc:∀ j,j < (flat es).length→w.cell? ⟨b,o+j,none⟩=some (cv j))
      (h1:∀ j,j < (flat es).length→(cv j).oneCell'=true)
      (hr:∀ j (h:j < (flat es).length),RepD V w Z (cv j) ((flat es)[j])) :
      RepD V w Z (.slice (some ⟨b,o,none⟩) es.length cap) (.slice es)
  | agg (cv:List Value) (cs:List D) (hl:cv.length=cs.length) (h1:∀ v ∈ cv,v.oneCell'=true)
      (hr:∀ j (h:j < cv.length) (h':j < cs.length),RepD V w Z cv[j] cs[j]):RepD V w Z (.agg cv.toArray) (.agg cs)
inductive LK where
  | int (k:IntKind)
  | str
  | bool
  deriving DecidableEq
def fits:LK→D→Bool
  | .int k,.int k' _=>k == k'
  | .str,.str _=>true
  | .bool,.bool _=>true
  | _,_=>false
def kS:List LK→List D→Bool
  | [],[]=>true
  | k::ks,x::xs=>fits k x && kS ks xs
  | _,_=>false
inductive KS where
  | one (k:LK)
  | row (ks:List LK)
def vK:KS→D→Bool
  | .one k,x=>fits k x
  | .row ks,.agg cs=>kS ks cs
  | _,_=>false
def leafV:D→Value
  | .int k n=>.int k n
  | .str s=>.string s
  | .bool b=>.bool b
  | _=>.nilIface
def keyV:D→Value
  | .agg cs=>.agg (cs.map leafV).toArray
  | x=>leafV x
inductive A where
  | undef
  | d (x:D)
  | nils
  | agg (cs:List A)
  | tup (vs:List A)
  | ref (b off:Nat)
  | imm (cs:List D)
  | own (b:Nat) (v:Value)
  | eref (b:Nat) (v:Value) (sz i off:Nat)
  | func (f:FuncId) (caps:List A)
  | mp (b:Nat)
  | yld (l:Nat)
  | meth (f:FuncId) (bs:List A)
  deriving Inhabited
def A.cells:A→List A
  | .agg cs=>cs
  | .d x=>x.cells.map .d
  | x=>[x]
inductive RepA (V:Env) (w:World) (Z:Nat→Prop):Value→A→Prop
  | undef (v):RepA V w Z v .undef
  | d (v x) (h:RepD V w Z v x):RepA V w Z v (.d x)
  | nils:RepA V w Z (.slice none 0 0) .nils
  | agg (cv:List Value) (cs:List A) (hl:cv.length=cs.length) (h1:∀ v ∈ cv,v.oneCell'=true)
      (hr:∀ j (h:j < cv.length) (h':j < cs.length),RepA V w Z cv[j] cs[j]):RepA V w Z (.agg cv.toArray) (.agg cs)
  | tup (cv:List Value) (cs:List A) (hl:cv.length=cs.length)
      (hr:∀ j (h:j < cv.length) (h':j < cs.length),RepA V w Z cv[j] cs[j]):RepA V w Z (.tuple cv.toArray) (.tup cs)
  | ref (b off):RepA V w Z (.pointer (some ⟨b,off,none⟩)) (.ref b off)
  | imm (b o:Nat) (cs:List D) (cv:Nat→Value) (hz:¬ Z b) (hb:b < w.heap.size)
      (hc:∀ j,j < cs.length→w.cell? ⟨b,o+j,none⟩=some (cv j))
      (h1:∀ j,j < cs.length→(cv j).oneCell'=true)
      (hr:∀ j (h:j < cs.length),RepD V w Z (cv j) cs[j]):RepA V w Z (.pointer (some ⟨b,o,none⟩)) (.imm cs)
  | own (b v) (h:v.ownBlock=some b):RepA V w Z v (.own b v)
  | eref (b v sz i off):RepA V w Z (.pointer (some ⟨b,i * sz+off,none⟩)) (.eref b v sz i off)
  | func (f) (cv:List Value) (cs:List A) (hl:cv.length=cs.length)
      (hr:∀ j (h:j < cv.length) (h':j < cs.length),RepA V w Z cv[j] cs[j]):RepA V w Z (.func (.func f) #[] cv.toArray) (.func f cs)
  | mp (b):RepA V w Z (.map (some b)) (.mp b)
  | yld (l):RepA V w Z (.func (.yield l) #[] #[]) (.yld l)
  | meth (f) (bv:List Value) (bs:List A) (hl:bv.length=bs.length)
      (hr:∀ j (h:j < bv.length) (h':j < bs.length),RepA V w Z bv[j] bs[j]):RepA V w Z (.func (.func f) bv.toArray #[]) (.meth f bs)
inductive AObj where
  | var (cs:List A)
  | arr (E:TypeId) (sz:Nat) (v:Value) (ds:List D)
  | frz (v:Value) (ds:List D)
  | map (s:KS) (m:List (D×D))
  | loop (L:Loop) (N:Nat) (F:Nat→A)
abbrev Heap:=Nat→Option AObj
def AObj.owns:AObj→Bool
  | .frz .. => false
  | _=>true
def Own (H:Heap) (b:Nat):Prop:=∃ o,H b=some o∧o.owns=true
def upd (H:Heap) (b:Nat) (o:AObj):Heap:=fun k=>if k=b then some o else H k
def del (H:Heap) (b:Nat):Heap:=fun k=>if k=b then none else H k
def zKh (w:World) (b:Nat):Prop:=∃ c t z,w.heap[b]?=some (.cells c t z)
def ObjRep (V:Env) (w:World) (Z:Nat→Prop) (b:Nat):AObj→Prop
  | .var cs=>Z b∧∃ (cv:List Value) (T:TypeId),w.heap[b]?=some (.cells cv.toArray T (0,0))∧cv.length=cs.length ∧
      (∀ v ∈ cv,v.oneCell'=true)∧∀ j (h:j < cv.length) (h':j < cs.length),RepA V w Z cv[j] cs[j]
  | .arr E sz v ds=>Z b∧0 < sz∧(∀ d ∈ ds,(D.cells d).length=sz)∧v.ownBlock=some b∧∃ xs:List Value,
      w.ownsRow 0 E sz v ds.length xs∧xs.length=(flat ds).length∧(∀ x ∈ xs,x.oneCell'=true) ∧
      ∀ j (h:j < xs.length) (h':j < (flat ds).length),RepD V w Z xs[j] (flat ds)[j]
  | .frz v ds=>RepD V w Z v (.slice ds)∧¬ Z b∧zKh w b
  | .map s m=>Z b∧(∀ p ∈ m,vK s p.1=true)∧∃ es clock,w.heap[b]?=some (.map es clock)∧es.size=m.length ∧
      ∀ j (h:j < es.size) (h':j < m.length),es[j].key=keyV m[j].1∧RepD V w Z es[j].val m[j].2
  | .loop L N F=>Z b∧w.heap[b]?=some (.loop L)∧L.tmps.size=N∧∀ i,i < N→RepA V w Z (L.tmps.getD i undef) (F i)
structure Ext (Z:Nat→Prop) (H:Heap) (w:World) (Z':Nat→Prop) (H':Heap) (w':World):Prop where
  os:w'.os=w.os
  tape:w'.tape=w.tape
  output:w'.output=w.output
  size:w.heap.size≤w'.heap.size
  block:∀ b,b < w.heap.size→¬ Own H b→w'.heap[b]?=w.heap[b]?
  znew:∀ b,Z' b→Z b∨w.heap.size≤b
  zold:∀ b,Z b→¬ Own H b→Z' b
  own:∀ b,Own H' b→Own H b∨w.heap.size≤b
theorem Ext.refl (Z H w):Ext Z H w Z H w:=⟨rfl,rfl,rfl,Nat.le_refl _,fun _ _ _=>rfl,fun _ h=>.inl h,fun _ h _=>h,fun _ h=>.inl h⟩
theorem Ext.trans {Z0 Z1 Z2:Nat→Prop} {H0 H1 H2:Heap} {w0 w1 w2:World} (hz:∀ b,Z0 b→b < w0.heap.size)
    (h:Ext Z0 H0 w0 Z1 H1 w1) (k:Ext Z1 H1 w1 Z2 H2 w2):Ext Z0 H0 w0 Z2 H2 w2 where
  os:=k.os.trans h.os
  tape:=k.tape.trans h.tape
  output:=k.output.trans h.output
  size:=Nat.le_trans h.size k.size
  block:=fun b hb ho=>by
    rw [k.block b (Nat.lt_of_lt_of_le hb h.size) (fun ho1=>by rcases h.own b ho1 with h' | h'; exact ho h'; omega),h.block b hb ho]
  znew:=fun b hb=>by
    rcases k.znew b hb with h1 | h1
    · exact h.znew b h1
    · exact .inr (Nat.le_trans h.size h1)
  zold:=fun b hb ho=>k.zold b (h.zold b hb ho) (fun ho1=>by
    rcases h.own b ho1 with h' | h'
    · exact ho h'
    · have:=hz b hb; omega)
  own:=fun b hb=>by
    rcases k.own b hb with h1 | h1
    · exact h.own b h1
    · exact .inr (Nat.le_trans h.size h1)
structure Keeps (Z:Nat→Prop) (w:World) (Z':Nat→Prop) (w':World):Prop where
  size:w.heap.size≤w'.heap.size
  block:∀ b,b < w.heap.size→¬ Z b→w'.heap[b]?=w.heap[b]?
  out:∀ b,b < w.heap.size→¬ Z b→¬ Z' b
theorem Ext.keeps {Z Z':Nat→Prop} {H H':Heap} {w w':World} (h:Ext Z H w Z' H' w') (ho:∀ b,Own H b→Z b):Keeps Z w Z' w' :=
  ⟨h.size,fun b hb hz=>h.block b hb (fun hh=>hz (ho b hh)),fun b hb hz hz'=>by rcases h.znew b hz' with h1 | h1; exact hz h1; omega⟩
theorem Keeps.cell {Z Z':Nat→Prop} {w w':World} (h:Keeps Z w Z' w') {b o:Nat} {v:Value} (hz:¬ Z b) (hc:w.cell? ⟨b,o,none⟩=some v) :
    w'.cell? ⟨b,o,none⟩=some v:=by
  have hb:=World.block_lt_of_cell? w _ hc
  rw [World.cell?_of_block (w:=w) (h.block b hb hz)]; exact hc
theorem RepD.keep {V:Env} {w:World} {Z:Nat→Prop} {v:Value} {x:D} (h:RepD V w Z v x) {Z':Nat→Prop} {w':World} (k:Keeps Z w Z' w'):RepD V w' Z' v x:=by
  induction h with
  | int=>exact .int ..
  | bool=>exact .bool ..
  | str=>exact .str ..
  | raw v h=>exact .raw v h
  | sent g=>exact .sent g
  | empty=>exact .empty ..
  | slice b o cap es sz cv hk hz hb hs hc h1 hr ih =>
    exact .slice b o cap es sz cv hk (k.out b hb hz) (Nat.lt_of_lt_of_le hb k.size) hs (fun j hj=>k.cell hz (hc j hj)) h1 ih
  | agg cv cs hl h1 hr ih=>exact .agg cv cs hl h1 ih
theorem RepA.keep {V:Env} {w:World} {Z:Nat→Prop} {v:Value} {x:A} (h:RepA V w Z v x) {Z':Nat→Prop} {w':World} (k:Keeps Z w Z' w'):RepA V w' Z' v x:=by
  induction h with
  | undef=>exact .undef ..
  | d v x h=>exact .d v x (h.keep k)
  | nils=>exact .nils
  | agg cv cs hl h1 hr ih=>exact .agg cv cs hl h1 ih
  | tup cv cs hl hr ih=>exact .tup cv cs hl ih
  | ref=>exact .ref ..
  | imm b o cs cv hz hb hc h1 hr=>exact .imm b o cs cv (k.out b hb hz) (Nat.lt_of_lt_of_le hb k.size) (fun j hj=>k.cell hz (hc j hj)) h1 (fun j hj=>(hr j hj).keep k)
  | own b v h=>exact .own b v h
  | eref=>exact .eref ..
  | func f cv cs hl hr ih=>exact .func f cv cs hl ih
  | mp=>exact .mp ..
  | yld=>exact .yld ..
  | meth f bv bs hl hr ih=>exact .meth f bv bs hl ih
theorem ObjRep.keep {V:Env} {w:World} {Z:Nat→Prop} {b:Nat} {o:AObj} (h:ObjRep V w Z b o) {Z':Nat→Prop} {w':World} (k:Keeps Z w Z' w')
    (hz:o.owns=true→Z' b∧w'.heap[b]?=w.heap[b]?):ObjRep V w' Z' b o:=by
  cases o with
  | var cs =>
    obtain ⟨_,cv,T,hh,hl,h1,hr⟩:=h
    obtain ⟨hz,hb⟩:=hz rfl
    exact ⟨hz,cv,T,hb.trans hh,hl,h1,fun j h h'=>(hr j h h').keep k⟩
  | arr E sz v ds =>
    obtain ⟨_,h0,hs,hv,xs,how,hl,h1,hr⟩:=h
    obtain ⟨hz,hb⟩:=hz rfl
    refine ⟨hz,h0,hs,hv,xs,⟨how.1, ?_⟩,hl,h1,fun j h h'=>(hr j h h').keep k⟩
    rcases how.2 with ⟨rfl,_⟩ | ⟨g,cap,cur,rfl,h2,h3,h4⟩
    · simp [Value.ownBlock] at hv
    · simp [Value.ownBlock] at hv
      subst hv
      exact .inr ⟨g,cap,cur,rfl,h2,hb.trans h3,h4⟩
  | frz v ds =>
    obtain ⟨h1,h2,c,t,z,h3⟩:=h
    have hb:=(Array.getElem?_eq_some_iff.1 h3).1
    exact ⟨h1.keep k,k.out b hb h2,c,t,z,(k.block b hb h2).trans h3⟩
  | map s m =>
    obtain ⟨_,hf,es,clock,hh,hl,hr⟩:=h
    obtain ⟨hz,hb⟩:=hz rfl
    exact ⟨hz,hf,es,clock,hb.trans hh,hl,fun j h h'=>⟨(hr j h h').1,(hr j h h').2.keep k⟩⟩
  | loop L N F =>
    obtain ⟨_,hh,hn,hr⟩:=h
    obtain ⟨hz,hb⟩:=hz rfl
    exact ⟨hz,hb.trans hh,hn,fun i hi=>(hr i hi).keep k⟩
theorem gS:type_of% @Int.toNat_natCast∧type_of% @Int.natCast_nonneg∧type_of% @List.getElem?_map.{0,0}∧type_of% @List.length_map.{0,0}∧type_of% @Nat.zero_add∧type_of% @eq_self.{1}∧type_of% @Bool.not_true∧type_of% @Bool.not_false:=⟨@Int.toNat_natCast,@Int.natCast_nonneg,@List.getElem?_map.{0,0},@List.length_map.{0,0},@Nat.zero_add,@eq_self.{1},@Bool.not_true,@Bool.not_false⟩
attribute [go_sem_proc] Nat.reduceBEq Nat.reduceLT Nat.reduceAdd Nat.reduceSub Nat.reduceMul Nat.reduceLeDiff Int.reduceLE

def updF (F:Nat→A) (d:Nat) (x:A):Nat→A:=fun i=>if i=d then x else F i
def mkF:List (Nat×A)→Nat→A
  | [],_=>.undef
  | (s,x)::l,i=>if i=s then x else mkF l i
structure EnvOK (V:Env) (w:World) (Z:Nat→Prop):Prop where
  glob:∀ g x,V.G g=some x→¬ Z g∧g < w.heap.size∧∃ v,w.cell? ⟨g,0,none⟩=some v∧v.oneCell'=true∧RepD V w Z v x
  sent:∀ g,V.G g=some (.sent g)→¬ Z (V.eb g).block∧(V.eb g).block < w.heap.size∧∃ c t,w.heap[(V.eb g).block]?=some (.cells c t (0,0))
  inj:∀ g g',V.G g=some (.sent g)→V.G g'=some (.sent g')→V.eb g=V.eb g'→g=g'
  fix:∀ b o,V.M b=some o→¬ Z b∧b < w.heap.size∧w.heap[b]?=some o
theorem EnvOK.keep {V:Env} {w:World} {Z:Nat→Prop} (h:EnvOK V w Z) {Z':Nat→Prop} {w':World} (k:Keeps Z w Z' w'):EnvOK V w' Z' where
  glob:=fun g x hg=>by
    obtain ⟨h1,h2,v,h3,h5,h4⟩:=h.glob g x hg
    exact ⟨k.out g h2 h1,Nat.lt_of_lt_of_le h2 k.size,v,k.cell h1 h3,h5,h4.keep k⟩
  sent:=fun g hg=>by
    obtain ⟨h1,h2,c,t,h3⟩:=h.sent g hg
    exact ⟨k.out _ h2 h1,Nat.lt_of_lt_of_le h2 k.size,c,t,(k.block _ h2 h1).trans h3⟩
  inj:=h.inj
  fix:=fun b o hb=>by
    obtain ⟨h1,h2,h3⟩:=h.fix b o hb
    exact ⟨k.out b h2 h1,Nat.lt_of_lt_of_le h2 k.size,(k.block b h2 h1).trans h3⟩
structure Mem (V:Env) (Z:Nat→Prop) (H:Heap) (w:World):Prop where
  heap:∀ b o,H b=some o→ObjRep V w Z b o
  zlt:∀ b,Z b→b < w.heap.size
  env:EnvOK V w Z
  lt:∀ b o,H b=some o→b < w.heap.size
theorem Mem.own {V:Env} {Z:Nat→Prop} {H:Heap} {w:World} (h:Mem V Z H w):∀ b,Own H b→Z b:=by
  rintro b ⟨o,ho,hw⟩
  have:=h.heap b o ho
  cases o with
  | var=>exact this.1
  | arr=>exact this.1
  | frz=>simp [AObj.owns] at hw
  | map=>exact this.1
  | loop=>exact this.1
theorem Mem.keeps {V:Env} {Z Z':Nat→Prop} {H H':Heap} {w w':World} (h:Mem V Z H w) (e:Ext Z H w Z' H' w'):Keeps Z w Z' w':=e.keeps h.own
theorem uP (w:World) (o:Obj) (i:Nat) (h:i < w.heap.size):(w.alloc o).heap[i]?=w.heap[i]?:=by
  show (w.heap.push o)[i]?=w.heap[i]?
  rw [Array.getElem?_push,if_neg (by omega)]
structure Df where
  ds:List Deferred
  B:Nat
def mark (D:Nat):Deferred:={ target:=.collected D,args:=#[] }
def Marked (M:Nat→Option Obj) (B:Nat) (Z:Nat→Prop) (w:World) (l ds:List Deferred):Prop :=
  B≤w.heap.size∧∃ ms:List Nat,l=ms.map mark++ds∧ms.Nodup∧∀ D ∈ ms,B≤D∧¬ Z D∧D < w.heap.size∧w.heap[D]?=some (.deferred (some []))∧M D=none
theorem Marked.none {M:Nat→Option Obj} {B:Nat} {Z:Nat→Prop} {w:World} (ds:List Deferred) (h:B≤w.heap.size):Marked M B Z w ds ds:=⟨h,[],rfl,.nil,fun _ h=>by cases h⟩
theorem Marked.keep {M:Nat→Option Obj} {B:Nat} {Z Z':Nat→Prop} {w w':World} {l ds:List Deferred} (h:Marked M B Z w l ds) (k:Keeps Z w Z' w'):Marked M B Z' w' l ds :=
  let ⟨h0,ms,h1,h2,h3⟩:=h
  ⟨Nat.le_trans h0 k.size,ms,h1,h2,fun D hD=>let ⟨a,b,c,d,e⟩:=h3 D hD; ⟨a,k.out D c b,Nat.lt_of_lt_of_le c k.size,(k.block D c b).trans d,e⟩⟩
structure St (V:Env) (N:Nat) (ds:Df) (Z:Nat→Prop) (F:Nat→A) (H:Heap) (a:Act) (w:World):Prop where
  defers:Marked V.M ds.B Z w a.defers ds.ds
  size:a.tmps.size=N
  slots:∀ i,i < N→RepA V w Z (a.tmps.getD i undef) (F i)
  mem:Mem V Z H w
def LeF (G F:Nat→A):Prop:=∀ i,G i=F i∨G i=.undef
def LeH (G H:Heap):Prop:=∀ b o,G b=some o→H b=some o
theorem LeF.refl (F):LeF F F:=fun _=>.inl rfl
theorem LeH.refl (H):LeH H H:=fun _ _ h=>h
theorem LeH.trans {A B C:Heap} (h:LeH A B) (k:LeH B C):LeH A C:=fun b o x=>k b o (h b o x)
theorem zAy {F:Nat→A}:∀ (l:List (Nat×A)),(∀ p ∈ l,F p.1=p.2)→LeF (mkF l) F
  | [],_=>fun _=>.inr rfl
  | (s,x)::l,h=>fun i=>by
    simp only [mkF]
    split
    · rename_i e; subst e; exact .inl (h _ (.head _)).symm
    · exact zAy l (fun p hp=>h p (.tail _ hp)) i
theorem LeH.own {G H:Heap} (h:LeH G H) {b:Nat} (o:Own G b):Own H b:=let ⟨x,hx,hw⟩:=o; ⟨x,h b x hx,hw⟩
theorem Mem.le {V:Env} {Z:Nat→Prop} {H G:Heap} {w:World} (h:Mem V Z H w) (hG:LeH G H):Mem V Z G w :=
  ⟨fun b o ho=>h.heap b o (hG b o ho),h.zlt,h.env,fun b o ho=>h.lt b o (hG b o ho)⟩
theorem St.le {V:Env} {N:Nat} {ds:Df} {Z:Nat→Prop} {F G:Nat→A} {H I:Heap} {a:Act} {w:World} (h:St V N ds Z F H a w) (hF:LeF G F) (hH:LeH I H):St V N ds Z G I a w :=
  ⟨h.defers,h.size,fun i hi=>by rcases hF i with e | e <;> rw [e]; exact h.slots i hi; exact .undef _,h.mem.le hH⟩
theorem Ext.le {Z Z':Nat→Prop} {H G H':Heap} {w w':World} (h:Ext Z G w Z' H' w') (hG:LeH G H):Ext Z H w Z' H' w' :=
  ⟨h.os,h.tape,h.output,h.size,fun b hb ho=>h.block b hb (fun x=>ho (hG.own x)),h.znew,fun b hb ho=>h.zold b hb (fun x=>ho (hG.own x)),
    fun b hb=>(h.own b hb).imp hG.own id⟩
theorem Ext.le' {Z Z':Nat→Prop} {H H' G:Heap} {w w':World} (h:Ext Z H w Z' H' w') (hG:LeH G H'):Ext Z H w Z' G w' :=
  ⟨h.os,h.tape,h.output,h.size,h.block,h.znew,h.zold,fun b hb=>h.own b (hG.own hb)⟩
abbrev Post:=Exit→(Nat→A)→Heap→Prop
def Behind (V:Env) (N:Nat) (ds:Df) (Z:Nat→Prop) (H:Heap) (w:World) (Q:Post):Exit→Act→World→Prop :=
  fun e a' w'=>∃ Z' F' H',St V N ds Z' F' H' a' w'∧Ext Z H w Z' H' w'∧Q e F' H'
def wQ (r:Option Nat):Fence:={ Fence.wide with round:=r }
theorem kI (r:Option Nat) (n:Nat):(wQ r).depth.isSome=true→1≤n:=fun h=>by cases h
theorem callsIn_roundF {r:Option Nat} {n:Nat} {P:Program} {f:FuncId} {args:Array Value} {w:World} {R:Ending→World→Prop}:CallsIn (wQ r) n P f args w R↔Calls P f args w R:=callsIn_wide (n:=n)
def AWp (r:Option Nat) (P:Program) (V:Env) (N:Nat) (c:Code) (Q:Post) (F:Nat→A) (H:Heap):Prop :=
  ∀ ds Z a w,St V N ds Z F H a w→c.wpIn (wQ r) 0 P (Behind V N ds Z H w Q) a w
section
variable {r:Option Nat} {P:Program} {V:Env} {N:Nat} {Q:Post} {F:Nat→A} {H:Heap}
theorem Behind.step {ds:Df} {Z Z1:Nat→Prop} {H1:Heap} {w w1:World} (hz:∀ b,Z b→b < w.heap.size) (x:Ext Z H w Z1 H1 w1) {e:Exit} {a:Act} {w2:World}
    (h:Behind V N ds Z1 H1 w1 Q e a w2):Behind V N ds Z H w Q e a w2 :=
  let ⟨Z',F',H',s,k,q⟩:=h
  ⟨Z',F',H',s,x.trans hz k,q⟩
theorem AWp.mono {c:Code} {Q':Post} (h:AWp r P V N c Q F H) (hq:∀ e F H,Q e F H→Q' e F H):AWp r P V N c Q' F H :=
  fun ds Z a w s=>wpIn_mono (h ds Z a w s) fun _ _ _ ⟨Z',F',H',st,x,q⟩=>⟨Z',F',H',st,x,hq _ _ _ q⟩
theorem AWp.le {c:Code} {G:Nat→A} {I:Heap} (h:AWp r P V N c Q G I) (hF:LeF G F) (hH:LeH I H):AWp r P V N c Q F H :=
  fun ds Z a w s=>wpIn_mono (h ds Z a w (s.le hF hH)) fun _ _ _ ⟨Z',F',H',st,x,q⟩=>⟨Z',F',H',st,x.le hH,q⟩
theorem AWp.skip (h:Q .normal F H):AWp r P V N .skip Q F H:=fun _ Z _ w s=>wpIn_skip ⟨Z,F,H,s,.refl Z H w,h⟩
theorem AWp.exit {id:Nat} (h:Q (.exit id) F H):AWp r P V N (.exit id) Q F H:=fun _ Z _ w s=>wpIn_exit ⟨Z,F,H,s,.refl Z H w,h⟩
theorem AWp.ret (h:Q .ret F H):AWp r P V N .ret Q F H:=fun _ Z _ w s=>wpIn_ret ⟨Z,F,H,s,.refl Z H w,h⟩
def wD (K:(Nat→A)→Heap→Prop) (Q:Post):Post
  | .normal,F,H=>K F H
  | e,F,H=>Q e F H
theorem AWp.seq {x y:Code} (h:AWp r P V N x (wD (AWp r P V N y Q) Q) F H):AWp r P V N (.seq x y) Q F H:=by
  intro ds Z a w s
  refine wpIn_seq (wpIn_mono (h ds Z a w s) ?_)
  rintro e a' w' ⟨Z',F',H',st,x,q⟩
  cases e with
  | normal=>exact wpIn_mono (q ds Z' a' w' st) fun _ _ _ hb=>hb.step s.mem.zlt x
  | exit id=>exact ⟨Z',F',H',st,x,q⟩
  | goto l=>exact ⟨Z',F',H',st,x,q⟩
  | ret=>exact ⟨Z',F',H',st,x,q⟩
  | panic ch=>exact ⟨Z',F',H',st,x,q⟩
  | outgrown=>exact ⟨Z',F',H',st,x,q⟩
def zW (id:Nat) (Q:Post):Post
  | .exit id',F,H=>if id'=id then Q .normal F H else Q (.exit id') F H
  | e,F,H=>Q e F H
theorem AWp.block {id:Nat} {c:Code} (h:AWp r P V N c (zW id Q) F H):AWp r P V N (.block id c) Q F H:=by
  intro ds Z a w s
  refine wpIn_block (wpIn_mono (h ds Z a w s) ?_)
  rintro e a' w' ⟨Z',F',H',st,x,q⟩
  cases e with
  | exit id' =>
    simp only [Exit.inBlock]
    simp only [zW] at q
    split
    · rename_i e; rw [if_pos e] at q; exact ⟨Z',F',H',st,x,q⟩
    · rename_i e; rw [if_neg e] at q; exact ⟨Z',F',H',st,x,q⟩
  | normal=>exact ⟨Z',F',H',st,x,q⟩
  | goto l=>exact ⟨Z',F',H',st,x,q⟩
  | ret=>exact ⟨Z',F',H',st,x,q⟩
  | panic ch=>exact ⟨Z',F',H',st,x,q⟩
  | outgrown=>exact ⟨Z',F',H',st,x,q⟩
theorem AWp.loop {X:Type} {c:Code} (l:X→List (Nat×A)) (J:X→Heap→Prop) (m:X→Nat) (x0:X) (H0:Heap)
    (h0:J x0 H0) (hF:∀ p ∈ l x0,F p.1=p.2) (hH:LeH H0 H)
    (round:∀ x H,J x H→AWp r P V N c (wD (fun F' H'=>∃ x' H'',J x' H''∧m x' < m x∧(∀ p ∈ l x',F' p.1=p.2)∧LeH H'' H') Q) (mkF (l x)) H) :
    AWp r P V N (.loop c) Q F H:=by
  intro ds Z a w s
  refine wpIn_loop_ghost (fun n a' w'=>∃ x Z' H',J x H'∧m x=n∧St V N ds Z' (mkF (l x)) H' a' w'∧Ext Z H w Z' H' w') (m x0)
    ⟨x0,Z,H0,h0,rfl,s.le (zAy _ hF) hH,(Ext.refl Z H w).le' hH⟩ ?_
  rintro n a1 w1 ⟨x,Z1,H1,hJ,rfl,st1,x1⟩
  refine wpIn_mono (round x H1 hJ ds Z1 a1 w1 st1) ?_
  rintro e a' w' ⟨Z',F',H',st,x2,q⟩
  have hx:=x1.trans s.mem.zlt x2
  cases e with
  | normal =>
    obtain ⟨x',H'',j,lt,fe,hle⟩:=q
    exact ⟨m x',lt,x',Z',H'',j,rfl,st.le (zAy _ fe) hle,hx.le' hle⟩
  | exit id'=>exact ⟨Z',F',H',st,hx,q⟩
  | goto l=>exact ⟨Z',F',H',st,hx,q⟩
  | ret=>exact ⟨Z',F',H',st,hx,q⟩
  | panic ch=>exact ⟨Z',F',H',st,hx,q⟩
  | outgrown=>exact ⟨Z',F',H',st,hx,q⟩
def zCa:Value→A
  | .int k n=>.d (.int k n)
  | .bool b=>.d (.bool b)
  | .string s=>.d (.str s)
  | .slice none 0 0=>.nils
  | .pointer none=>.d (.raw (.pointer none))
  | .nilIface=>.d (.raw .nilIface)
  | .nilFunc=>.d (.raw .nilFunc)
  | _=>.undef
theorem zJA {w:World} {Z:Nat→Prop} (v:Value):RepA V w Z v (zCa v):=by
  unfold zCa
  split <;> first
    | exact .d _ _ (.int ..)
    | exact .d _ _ (.bool ..)
    | exact .d _ _ (.str ..)
    | exact .nils
    | exact .d _ _ (.raw _ rfl)
    | exact .undef _
def ev (V:Env) (N:Nat) (F:Nat→A):Operand→A
  | .tmp t=>if t < N then F t else .undef
  | .const v=>zCa v
  | .global g=>match V.G g with | some x=>.imm [x] | none=>.undef
  | .func f=>.func f []
theorem xM {ds:Df} {Z:Nat→Prop} {a:Act} {w:World} (s:St V N ds Z F H a w) (o:Operand):RepA V w Z (a.eval o) (ev V N F o):=by
  cases o with
  | tmp t =>
    simp only [ev,Act.eval]
    split
    · exact s.slots t (by assumption)
    · exact .undef _
  | const v=>exact zJA v
  | global g =>
    simp only [ev,Act.eval]
    cases hg:V.G g with
    | none=>exact .undef _
    | some x =>
      obtain ⟨h1,h2,v,h3,h5,h4⟩:=s.mem.env.glob g x hg
      refine .imm g 0 [x] (fun _=>v) h1 h2 ?_ (fun _ _=>h5) ?_
      · intro j hj; simp only [List.length_cons, List.length_nil] at hj; obtain rfl : j = 0 := by omega
        simpa using h3
      · intro j hj; simp only [List.length_cons, List.length_nil] at hj; obtain rfl : j = 0 := by omega
        simpa using h4
  | func f=>exact .func f [] [] rfl (fun j h=>by simp at h)
theorem AWp.cond {c:Operand} {x y:Code} (b:Bool) (hc:ev V N F c=.d (.bool b)) (h:AWp r P V N (if b then x else y) Q F H):AWp r P V N (.cond c x y) Q F H:=by
  intro ds Z a w s
  have rc:=xM s c
  rw [hc] at rc
  generalize hv:a.eval c=v at rc
  cases rc with
  | d v x hr =>
    cases hr
    exact wpIn_cond hv (h ds Z a w s)
end
end Go.Aug

/-
  The abstract layer, part C: what is deepened (frozen), calls of functions, their entry and return.
-/
namespace Go.Aug
section
variable {V:Env} {Z:Nat→Prop} {H:Heap} {w:World}
theorem zMH {Z':Nat→Prop} {b:Nat} {E:TypeId} {sz:Nat} {v:Value} {ds:List D} (h:ObjRep V w Z b (.arr E sz v ds)) (k:Keeps Z w Z' w)
    (hz:¬ Z' b):RepD V w Z' v (.slice ds):=by
  obtain ⟨_,h0,hs,hv,xs,how,hl,h1,hr⟩:=h
  rcases how.2 with ⟨rfl,_⟩ | ⟨g,cap,cur,rfl,h2,h3,h4,h5,h6,h7⟩
  · simp [Value.ownBlock] at hv
  · simp [Value.ownBlock] at hv
    subst hv
    have hcell:∀ j (h:j < xs.length),w.cell? ⟨g,0+j,none⟩=some xs[j]:=by
      intro j hj
      have hj':j < ds.length * sz:=by rw [←how.1]; exact hj
      have:(cur.toList.take (ds.length * sz))[j]?=some xs[j]:=by rw [h7]; exact List.getElem?_eq_getElem hj
      rw [List.getElem?_take] at this
      simp only [hj',if_true] at this
      simp only [World.cell?,h3,Nat.zero_add]
      simpa using this
    refine .slice g 0 cap ds sz (fun j=>xs.getD j undef) h4 hz (Array.getElem?_eq_some_iff.1 h3).1 hs ?_ ?_ ?_
    · intro j hj
      rw [←hl] at hj
      simp only [hcell j hj,List.getD,List.getElem?_eq_getElem hj,Option.getD_some]
    · intro j hj
      rw [←hl] at hj
      simp only [List.getD,List.getElem?_eq_getElem hj,Option.getD_some]
      exact h1 _ (List.getElem_mem hj)
    · intro j hj
      have hj':j < xs.length:=by rw [hl]; exact hj
      simp only [List.getD,List.getElem?_eq_getElem hj',Option.getD_some]
      exact (hr j hj' hj).keep k
theorem zV (H:Heap) (b:Nat) (o:AObj):upd H b o b=some o:=by simp [upd]
theorem xI (H:Heap) {b k:Nat} (o:AObj) (h:k≠b):upd H b o k=H k:=by simp [upd,h]
theorem Mem.freeze {b:Nat} {E:TypeId} {sz:Nat} {v:Value} {ds:List D} (m:Mem V Z H w) (h:H b=some (.arr E sz v ds)) :
    Mem V (fun k=>Z k∧k≠b) (upd H b (.frz v ds)) w∧Ext Z H w (fun k=>Z k∧k≠b) (upd H b (.frz v ds)) w∧RepD V w (fun k=>Z k∧k≠b) v (.slice ds):=by
  have hb:=m.heap b _ h
  have k:Keeps Z w (fun k=>Z k∧k≠b) w:=⟨Nat.le_refl _,fun _ _ _=>rfl,fun _ _ hz hz'=>hz hz'.1⟩
  have hd:=zMH hb k (fun x=>x.2 rfl)
  have hc:zKh w b:=by
    obtain ⟨_,_,_,hv,xs,how,_⟩:=hb
    rcases how.2 with ⟨rfl,_⟩ | ⟨g,cap,cur,rfl,h2,h3,_⟩
    · simp [Value.ownBlock] at hv
    · simp [Value.ownBlock] at hv
      subst hv
      exact ⟨_,_,_,h3⟩
  refine ⟨⟨?_,fun k hk=>m.zlt k hk.1,m.env.keep k, ?_⟩, ?_,hd⟩
  · intro k' o ho
    by_cases e:k'=b
    · subst e
      rw [zV] at ho; cases ho
      exact ⟨hd,fun x=>x.2 rfl,hc⟩
    · rw [xI _ _ e] at ho
      refine (m.heap k' o ho).keep k fun hw=>⟨⟨m.own k' ⟨o,ho,hw⟩,e⟩,rfl⟩
  · intro k' o ho
    by_cases e:k'=b
    · subst e; exact m.lt _ _ h
    · rw [xI _ _ e] at ho; exact m.lt _ _ ho
  · refine ⟨rfl, rfl, rfl, Nat.le_refl _, fun _ _ _ => rfl, fun k hk => .inl hk.1, fun k hk ho => ⟨hk, ?_⟩, ?_⟩
    · rintro rfl; exact ho ⟨_,h,rfl⟩
    · rintro k ⟨o, ho, hw⟩
      by_cases e:k=b
      · subst e; rw [zV] at ho; cases ho; simp [AObj.owns] at hw
      · rw [xI _ _ e] at ho; exact .inl ⟨o,ho,hw⟩
mutual
def xG (H:Heap):A→(D→Heap→Prop)→Prop
  | .d x,K=>K x H
  | .nils,K=>K (.slice []) H
  | .own b v,K=>match H b with
    | some (.arr _ _ v' ds)=>v'=v∧K (.slice ds) (upd H b (.frz v ds))
    | some (.frz v' ds)=>v'=v∧K (.slice ds) H
    | _=>False
  | .agg cs,K=>xU H cs (fun ds H=>K (.agg ds) H)
  | _,_=>False
def xU (H:Heap):List A→(List D→Heap→Prop)→Prop
  | [],K=>K [] H
  | c::cs,K=>xG H c (fun d H=>xU H cs (fun ds H=>K (d::ds) H))
end
mutual
theorem jS:∀ (a:A) {H:Heap} {Z:Nat→Prop} {K:D→Heap→Prop} {v:Value},xG H a K→Mem V Z H w→RepA V w Z v a →
    ∃ x H' Z',RepD V w Z' v x∧Mem V Z' H' w∧Ext Z H w Z' H' w∧K x H'
  | .d x,H,Z,K,v,h,m,r=>by
    cases r with | d _ _ r=>exact ⟨x,H,Z,r,m,.refl ..,h⟩
  | .nils,H,Z,K,v,h,m,r=>by
    cases r; exact ⟨.slice [],H,Z,.empty ..,m,.refl ..,h⟩
  | .own b v',H,Z,K,v,h,m,r=>by
    cases r
    simp only [xG] at h
    split at h
    · rename_i E sz v'' ds hb
      obtain ⟨rfl,h⟩:=h
      obtain ⟨m',x,r'⟩:=m.freeze hb
      exact ⟨_,_,_,r',m',x,h⟩
    · rename_i v'' ds hb
      obtain ⟨rfl,h⟩:=h
      exact ⟨_,H,Z,(m.heap b _ hb).1,m,.refl ..,h⟩
    · exact h.elim
  | .agg cs,H,Z,K,v,h,m,r=>by
    cases r with
    | agg cv _ hl h1 hr =>
      simp only [xG] at h
      obtain ⟨ds,H',Z',hl',rd,m',x,hK⟩:=zBK cs h m cv hl hr
      exact ⟨.agg ds,H',Z',.agg cv ds hl' h1 rd,m',x,hK⟩
  | .undef,_,_,_,_,h,_,_=>by simp [xG] at h
  | .tup _,_,_,_,_,h,_,_=>by simp [xG] at h
  | .ref ..,_,_,_,_,h,_,_=>by simp [xG] at h
  | .imm _,_,_,_,_,h,_,_=>by simp [xG] at h
  | .eref ..,_,_,_,_,h,_,_=>by simp [xG] at h
  | .func ..,_,_,_,_,h,_,_=>by simp [xG] at h
  | .mp ..,_,_,_,_,h,_,_=>by simp [xG] at h
  | .yld ..,_,_,_,_,h,_,_=>by simp [xG] at h
  | .meth ..,_,_,_,_,h,_,_=>by simp [xG] at h
theorem zBK:∀ (cs:List A) {H:Heap} {Z:Nat→Prop} {K:List D→Heap→Prop},xU H cs K→Mem V Z H w→∀ (cv:List Value),cv.length=cs.length →
    (∀ j (h:j < cv.length) (h':j < cs.length),RepA V w Z cv[j] cs[j]) →
    ∃ ds H' Z',∃ hl:cv.length=ds.length,(∀ j (h:j < cv.length) (h':j < ds.length),RepD V w Z' cv[j] ds[j])∧Mem V Z' H' w∧Ext Z H w Z' H' w∧K ds H'
  | [],H,Z,K,h,m,cv,hl,hr=>⟨[],H,Z,hl,fun j h h'=>by simp at h',m,.refl ..,h⟩
  | c::cs,H,Z,K,h,m,cv,hl,hr=>by
    match cv,hl with
    | u::cv,hl =>
      simp only [xU] at h
      obtain ⟨x,H1,Z1,r1,m1,x1,h1⟩:=jS c h m (hr 0 (by simp) (by simp))
      have hk:=m.keeps x1
      have hl':cv.length=cs.length:=by simpa using hl
      obtain ⟨ds,H2,Z2,hl2,r2,m2,x2,h2⟩:=zBK cs h1 m1 cv hl' (fun j h h'=>(hr (j+1) (by simpa using h) (by simpa using h')).keep hk)
      refine ⟨x::ds,H2,Z2,by simp [hl2], ?_,m2,x1.trans m.zlt x2,h2⟩
      intro j hj hj'
      cases j with
      | zero=>exact r1.keep (m1.keeps x2)
      | succ j=>exact r2 j (by simpa using hj) (by simpa using hj')
end
end
section
variable {P:Program} {V:Env} {N:Nat} {F:Nat→A} {H:Heap}
def turn (V:Env) (N:Nat) (F:Nat→A) (H:Heap) (K:(Nat→A)→Heap→Prop):Prop :=
  ∀ ds Z a w,St V N ds Z F H a w→∃ Z' F' H',St V N ds Z' F' H' a w∧Ext Z H w Z' H' w∧K F' H'
theorem turn.refl {K:(Nat→A)→Heap→Prop} (h:K F H):turn V N F H K:=fun _ Z _ w s=>⟨Z,F,H,s,.refl Z H w,h⟩
theorem turn.mono {K K':(Nat→A)→Heap→Prop} (h:turn V N F H K) (hk:∀ F H,K F H→K' F H):turn V N F H K':=fun ds Z a w s =>
  let ⟨Z',F',H',s',x,k⟩:=h ds Z a w s
  ⟨Z',F',H',s',x,hk _ _ k⟩
theorem AWp.turn {r:Option Nat} {c:Code} {Q:Post} (h:turn V N F H fun F H=>AWp r P V N c Q F H):AWp r P V N c Q F H:=fun ds Z a w s=>by
  obtain ⟨Z',F',H',s',x,k⟩:=h ds Z a w s
  exact wpIn_mono (k ds Z' a w s') fun _ _ _ hb=>hb.step s.mem.zlt x
theorem AWp.mono_turn {r:Option Nat} {c:Code} {Q Q':Post} (h:AWp r P V N c Q' F H) (hq:∀ e F H,Q' e F H→Go.Aug.turn V N F H (Q e)):AWp r P V N c Q F H :=
  fun ds Z a w s=>wpIn_mono (h ds Z a w s) fun e a' w' ⟨Z',F',H',st,x,q⟩ =>
    let ⟨Z2,F2,H2,st2,x2,q2⟩:=hq e F' H' q ds Z' a' w' st
    ⟨Z2,F2,H2,st2,x.trans s.mem.zlt x2,q2⟩
end
def ACall (P:Program) (V:Env) (f:FuncId) (args:List A) (H:Heap) (K:A→Heap→Prop):Prop :=
  ∀ Z w (cv:List Value),cv.length=args.length→(∀ j (h:j < cv.length) (h':j < args.length),RepA V w Z cv[j] args[j])→Mem V Z H w →
    Calls P f cv.toArray w fun e w'=>∃ v r Z' H',e=.returned v∧RepA V w' Z' v r∧Mem V Z' H' w'∧Ext Z H w Z' H' w'∧K r H'
def panW (V:Env) (H:Heap) (KP:Heap→Prop):Prop:=∀ Z w,Mem V Z H w→∃ Z' H',Mem V Z' H' w∧Ext Z H w Z' H' w∧KP H'
theorem wS {V:Env} {H:Heap} {KP:Heap→Prop} (h:KP H):panW V H KP:=fun _ _ m=>⟨_,H,m,.refl ..,h⟩
theorem xO {V:Env} {G H:Heap} {KP:Heap→Prop} (hG:LeH G H) (h:panW V G KP):panW V H KP:=fun Z w m =>
  let ⟨Z',H',m',x',k⟩:=h Z w (m.le hG)
  ⟨Z',H',m',x'.le hG,k⟩
def ACallP (P:Program) (V:Env) (f:FuncId) (args:List A) (H:Heap) (K:A→Heap→Prop) (KP:Value→Heap→Prop):Prop :=
  ∀ Z w (cv:List Value),cv.length=args.length→(∀ j (h:j < cv.length) (h':j < args.length),RepA V w Z cv[j] args[j])→Mem V Z H w →
    Calls P f cv.toArray w fun e w'=>(∃ v r Z' H',e=.returned v∧RepA V w' Z' v r∧Mem V Z' H' w'∧Ext Z H w Z' H' w'∧K r H') ∨
      (∃ v Z' H',e=.panicked [{ v,recovered:=false }]∧Mem V Z' H' w'∧Ext Z H w Z' H' w'∧KP v H')
theorem ACallP.mono {P:Program} {V:Env} {f:FuncId} {args:List A} {H:Heap} {K K':A→Heap→Prop} {KP KP':Value→Heap→Prop} (h:ACallP P V f args H K KP) (hk:∀ r H,K r H→K' r H) (hp:∀ v H,KP v H→KP' v H):ACallP P V f args H K' KP' :=
  fun Z w cv hl hr m=>(h Z w cv hl hr m).mono fun _ _ q=>q.imp (fun ⟨v,r,Z',H',he,hr,m',x,k⟩=>⟨v,r,Z',H',he,hr,m',x,hk _ _ k⟩) (fun ⟨v,Z',H',he,m',x,k⟩=>⟨v,Z',H',he,m',x,hp _ _ k⟩)
def ARound (P:Program) (V:Env) (l:Nat) (args:List A) (H:Heap) (K:A→Heap→Prop):Prop :=
  ∀ Z w (cv:List Value),cv.length=args.length→(∀ j (h:j < cv.length) (h':j < args.length),RepA V w Z cv[j] args[j])→Mem V Z H w →
    ∃ fn tmps assign body,(Instr.yield l cv.toArray).run P w=.ok (.round l fn tmps assign body) w ∧
      RoundIn Fence.wide 0 P l fn tmps assign body w fun e w'=>∃ v r Z' H',e=.returned v∧RepA V w' Z' v r∧Mem V Z' H' w'∧Ext Z H w Z' H' w'∧K r H'
theorem ARound.mono {P:Program} {V:Env} {l:Nat} {args:List A} {H:Heap} {K K':A→Heap→Prop} (h:ARound P V l args H K) (hk:∀ r H,K r H→K' r H):ARound P V l args H K':=fun Z w cv hl hr m=>by
  obtain ⟨fn,tmps,assign,body,h1,h2⟩:=h Z w cv hl hr m
  exact ⟨fn,tmps,assign,body,h1,h2.mono fun _ _ ⟨v,r,Z',H',he,hr,m',x,k⟩=>⟨v,r,Z',H',he,hr,m',x,hk _ _ k⟩⟩
section
variable {P:Program} {V:Env} {f:FuncId} {args:List A} {H:Heap} {K:A→Heap→Prop}
theorem ACall.mono {K':A→Heap→Prop} (h:ACall P V f args H K) (hk:∀ r H,K r H→K' r H):ACall P V f args H K' :=
  fun Z w cv hl hr m=>(h Z w cv hl hr m).mono fun _ _ ⟨v,r,Z',H',he,hr,m',x,k⟩=>⟨v,r,Z',H',he,hr,m',x,hk _ _ k⟩
def zBI (args:List A):Nat→A:=fun i=>args.getD i .undef
def retW (V:Env) (a:A) (H:Heap) (K:A→Heap→Prop):Prop :=
  ∀ Z w v,RepA V w Z v a→Mem V Z H w→∃ r Z' H',RepA V w Z' v r∧Mem V Z' H' w∧Ext Z H w Z' H' w∧K r H'
theorem zC {x:A} (h:K x H):retW V x H K:=fun _ _ _ r m=>⟨x,_,H,r,m,.refl ..,h⟩
theorem zB {x:A} {G:Heap} (hG:LeH G H) (h:retW V x G K):retW V x H K:=fun Z w v r m =>
  let ⟨y,Z',H',r',m',x',k⟩:=h Z w v r (m.le hG)
  ⟨y,Z',H',r',m',x'.le hG,k⟩
theorem zZ {x:A} (h:xG H x fun d G=>retW V (.d d) G K):retW V x H K:=fun Z w v r m =>
  let ⟨_,_,Z1,r1,m1,x1,k⟩:=jS x h m r
  let ⟨y,Z',H',r',m',x',k'⟩:=k Z1 w v (.d _ _ r1) m1
  ⟨y,Z',H',r',m',x1.trans m.zlt x',k'⟩
def frzM:List Bool→Heap→List A→(List A→Heap→Prop)→Prop
  | true::ms,H,x::xs,K=>xG H x fun d G=>frzM ms G xs fun l G=>K (.d d::l) G
  | false::ms,H,x::xs,K=>frzM ms H xs fun l G=>K (x::l) G
  | _,H,xs,K=>K xs H
theorem zAD {w:World}:∀ (ms:List Bool) (cs:List A) {H:Heap} {Z:Nat→Prop} {K:List A→Heap→Prop},frzM ms H cs K→Mem V Z H w→∀ (cv:List Value),cv.length=cs.length →
    (∀ j (h:j < cv.length) (h':j < cs.length),RepA V w Z cv[j] cs[j]) →
    ∃ ds H' Z',∃ hl:cv.length=ds.length,(∀ j (h:j < cv.length) (h':j < ds.length),RepA V w Z' cv[j] ds[j])∧Mem V Z' H' w∧Ext Z H w Z' H' w∧K ds H'
  | true::ms,c::cs,H,Z,K,h,m,u::cv,hl,hr=>by
    simp only [frzM] at h
    obtain ⟨x,H1,Z1,r1,m1,x1,h1⟩:=jS c h m (hr 0 (by simp) (by simp))
    have hk:=m.keeps x1
    obtain ⟨ds,H2,Z2,hl2,r2,m2,x2,h2⟩:=zAD ms cs h1 m1 cv (by simpa using hl) (fun j h h'=>(hr (j+1) (by simpa using h) (by simpa using h')).keep hk)
    refine ⟨.d x::ds,H2,Z2,by simp [hl2], ?_,m2,x1.trans m.zlt x2,h2⟩
    intro j hj hj'
    cases j with
    | zero=>exact .d _ _ (r1.keep (m1.keeps x2))
    | succ j=>exact r2 j (by simpa using hj) (by simpa using hj')
  | false::ms,c::cs,H,Z,K,h,m,u::cv,hl,hr=>by
    simp only [frzM] at h
    obtain ⟨ds,H2,Z2,hl2,r2,m2,x2,h2⟩:=zAD ms cs h m cv (by simpa using hl) (fun j h h'=>hr (j+1) (by simpa using h) (by simpa using h'))
    refine ⟨c::ds,H2,Z2,by simp [hl2], ?_,m2,x2,h2⟩
    intro j hj hj'
    cases j with
    | zero=>exact (hr 0 (by simp) (by simp)).keep (m.keeps x2)
    | succ j=>exact r2 j (by simpa using hj) (by simpa using hj')
  | [],cs,H,Z,K,h,m,cv,hl,hr=>⟨cs,H,Z,hl,hr,m,.refl ..,by simpa [frzM] using h⟩
  | true::_,[],H,Z,K,h,m,cv,hl,hr=>⟨[],H,Z,hl,hr,m,.refl ..,by simpa [frzM] using h⟩
  | false::_,[],H,Z,K,h,m,cv,hl,hr=>⟨[],H,Z,hl,hr,m,.refl ..,by simpa [frzM] using h⟩
  | _::_,_::_,_,_,_,_,_,[],hl,_=>by simp at hl
theorem vL (ms:List Bool) {xs:List A} (h:frzM ms H xs fun l G=>retW V (.tup l) G K):retW V (.tup xs) H K:=fun Z w v r m=>by
  cases r with
  | tup cv _ hl hr =>
    obtain ⟨ds,H1,Z1,hl1,r1,m1,x1,k⟩:=zAD ms xs h m cv hl hr
    obtain ⟨y,Z',H',r',m',x',k'⟩:=k Z1 w _ (.tup cv ds hl1 r1) m1
    exact ⟨y,Z',H',r',m',x1.trans m.zlt x',k'⟩
theorem ACallP.frz {KP:Value→Heap→Prop} (ms:List Bool) (h:frzM ms H args fun l G=>ACallP P V f l G K KP):ACallP P V f args H K KP:=fun Z w cv hl hr m=>by
  obtain ⟨ds,H1,Z1,hl1,r1,m1,x1,k⟩:=zAD ms args h m cv hl hr
  exact (k Z1 w cv hl1 r1 m1).mono fun _ _ q=>q.imp (fun ⟨v,r,Z',H',he,hr,m',x,k⟩=>⟨v,r,Z',H',he,hr,m',x1.trans m.zlt x,k⟩) (fun ⟨v,Z',H',he,m',x,k⟩=>⟨v,Z',H',he,m',x1.trans m.zlt x,k⟩)
theorem ACall.frz (ms:List Bool) (h:frzM ms H args fun l G=>ACall P V f l G K):ACall P V f args H K:=fun Z w cv hl hr m=>by
  obtain ⟨ds,H1,Z1,hl1,r1,m1,x1,k⟩:=zAD ms args h m cv hl hr
  exact (k Z1 w cv hl1 r1 m1).mono fun _ _ ⟨v,r,Z',H',he,hr,m',x,k⟩=>⟨v,r,Z',H',he,hr,m',x1.trans m.zlt x,k⟩
end
end Go.Aug

/-
  The abstract layer, part D: what operations do to memory.
-/
namespace Go.Aug
section
variable {P:Program} {V:Env} {Z:Nat→Prop} {H:Heap} {w:World}
def newK (H:Heap) (K:Nat→Prop):Prop:=∀ b,H b=none→K b
def newV (H:Heap) (K:Nat→Value→Prop):Prop:=∀ b v,H b=none→v.ownBlock=some b→K b v
def wP (H:Heap) (b:Nat) (K:Nat→Value→Prop):Prop:=∀ b' v',(b'=b∨H b'=none)→v'.ownBlock=some b'→K b' v'
def Zp (Z:Nat→Prop) (b:Nat):Nat→Prop:=fun k=>Z k∨k=b
theorem uZ (_m:Mem V Z H w) (ob:Obj):Keeps Z w (Zp Z w.heap.size) (w.alloc ob) :=
  ⟨by simp,fun b hb _=>uP w ob b hb,fun b hb hz h=>by rcases h with h | h; exact hz h; omega⟩
theorem Mem.alloc (m:Mem V Z H w) (ob:Obj) (o:AObj) (ho:ObjRep V (w.alloc ob) (Zp Z w.heap.size) w.heap.size o) :
    Mem V (Zp Z w.heap.size) (upd H w.heap.size o) (w.alloc ob)∧Ext Z H w (Zp Z w.heap.size) (upd H w.heap.size o) (w.alloc ob):=by
  have k:=uZ m ob
  refine ⟨⟨?_, ?_,m.env.keep k, ?_⟩,⟨rfl,rfl,rfl,by simp,fun b hb _=>uP w ob b hb, ?_,fun b hb _=>.inl hb, ?_⟩⟩
  · intro b o' hb
    by_cases e:b=w.heap.size
    · subst e; rw [zV] at hb; cases hb; exact ho
    · rw [xI _ _ e] at hb
      exact (m.heap b o' hb).keep k fun hw=>⟨.inl (m.own b ⟨o',hb,hw⟩),uP w ob b (m.lt _ _ hb)⟩
  · rintro b (hb | rfl)
    · have:=m.zlt b hb; simp; omega
    · simp
  · intro b o' hb
    by_cases e:b=w.heap.size
    · subst e; simp
    · rw [xI _ _ e] at hb; have:=m.lt _ _ hb; simp; omega
  · rintro b (hb | rfl)
    · exact .inl hb
    · exact .inr (Nat.le_refl _)
  · rintro b ⟨o', hb, hw⟩
    by_cases e:b=w.heap.size
    · exact .inr (by omega)
    · rw [xI _ _ e] at hb; exact .inl ⟨o',hb,hw⟩
theorem Mem.fresh (m:Mem V Z H w):H w.heap.size=none:=by
  cases h:H w.heap.size with
  | none=>rfl
  | some o=>exact absurd (m.lt _ _ h) (Nat.lt_irrefl _)
theorem zQR {cv:List Value} {cs:List A} {T:TypeId} (m:Mem V Z H w) (hl:cv.length=cs.length) (h1:∀ v ∈ cv,v.oneCell'=true)
    (hr:∀ j (h:j < cv.length) (h':j < cs.length),RepA V w Z cv[j] cs[j]) :
    ObjRep V (w.alloc (.cells cv.toArray T)) (Zp Z w.heap.size) w.heap.size (.var cs) :=
  ⟨.inr rfl,cv,T,heap_alloc_new w _,hl,h1,fun j h h'=>(hr j h h').keep (uZ m _)⟩
theorem Mem.set {b:Nat} {o o':AObj} (m:Mem V Z H w) (hb:H b=some o) (how:o.owns=true) {w':World} (hos:w'.os=w.os) (htape:w'.tape=w.tape) (hout:w'.output=w.output)
    (hsize:w'.heap.size=w.heap.size) (hother:∀ k,k≠b→w'.heap[k]?=w.heap[k]?) (ho:Keeps Z w Z w'→ObjRep V w' Z b o') :
    Mem V Z (upd H b o') w'∧Ext Z H w Z (upd H b o') w'∧Keeps Z w Z w':=by
  have hz:Z b:=m.own b ⟨o,hb,how⟩
  have k:Keeps Z w Z w':=⟨by omega,fun c _ hc=>hother c (fun e=>hc (e ▸ hz)),fun _ _ h=>h⟩
  refine ⟨⟨?_, ?_,m.env.keep k, ?_⟩,⟨hos,htape,hout,by omega, ?_,fun _ h=>.inl h,fun _ h _=>h, ?_⟩,k⟩
  · intro c oc hc
    by_cases e:c=b
    · subst e; rw [zV] at hc; cases hc; exact ho k
    · rw [xI _ _ e] at hc
      exact (m.heap c oc hc).keep k fun hw=>⟨m.own c ⟨oc,hc,hw⟩,hother c e⟩
  · intro c hc; rw [hsize]; exact m.zlt c hc
  · intro c oc hc
    by_cases e:c=b
    · subst e; rw [hsize]; exact m.lt _ _ hb
    · rw [xI _ _ e] at hc; rw [hsize]; exact m.lt _ _ hc
  · intro c hc hn
    exact hother c (fun e=>hn (e ▸ ⟨o,hb,how⟩))
  · rintro c ⟨oc, hc, hw⟩
    by_cases e:c=b
    · subst e; exact .inl ⟨o,hb,how⟩
    · rw [xI _ _ e] at hc; exact .inl ⟨oc,hc,hw⟩
theorem Mem.regrow {b b':Nat} {o o':AObj} (m:Mem V Z H w) (hb:H b=some o) (how:o.owns=true) {w':World} (hos:w'.os=w.os) (htape:w'.tape=w.tape) (hout:w'.output=w.output)
    (hsize:w.heap.size≤w'.heap.size) (hother:∀ k,k < w.heap.size→k≠b→w'.heap[k]?=w.heap[k]?) (hb':b'=b∨b'=w.heap.size) (hlt:b' < w'.heap.size)
    (ho:Keeps Z w (Zp Z b') w'→ObjRep V w' (Zp Z b') b' o') :
    Mem V (Zp Z b') (upd (del H b) b' o') w'∧Ext Z H w (Zp Z b') (upd (del H b) b' o') w'∧Keeps Z w (Zp Z b') w':=by
  have hz:Z b:=m.own b ⟨o,hb,how⟩
  have k:Keeps Z w (Zp Z b') w':=⟨hsize,fun c hl hc=>hother c hl (fun e=>hc (e ▸ hz)),fun c hl hc h=>by
    rcases h with h | h
    · exact hc h
    · rcases hb' with e | e
      · exact hc (by rw [h,e]; exact hz)
      · omega⟩
  have hdel:∀ c oc,del H b c=some oc→c≠b∧H c=some oc:=by
    intro c oc hc
    unfold del at hc
    split at hc
    · cases hc
    · exact ⟨by assumption,hc⟩
  refine ⟨⟨?_, ?_,m.env.keep k, ?_⟩,⟨hos,htape,hout,hsize, ?_, ?_,fun _ h _=>.inl h, ?_⟩,k⟩
  · intro c oc hc
    by_cases e:c=b'
    · subst e; rw [zV] at hc; cases hc; exact ho k
    · rw [xI _ _ e] at hc
      obtain ⟨hne,hc⟩:=hdel c oc hc
      exact (m.heap c oc hc).keep k fun hw=>⟨.inl (m.own c ⟨oc,hc,hw⟩),hother c (m.lt _ _ hc) hne⟩
  · rintro c (hc | rfl)
    · have:=m.zlt c hc; omega
    · exact hlt
  · intro c oc hc
    by_cases e:c=b'
    · subst e; exact hlt
    · rw [xI _ _ e] at hc
      have:=m.lt _ _ (hdel c oc hc).2; omega
  · intro c hc hn
    exact hother c hc (fun e=>hn (e ▸ ⟨o,hb,how⟩))
  · rintro c (hc | rfl)
    · exact .inl hc
    · rcases hb' with rfl | rfl
      · exact .inl hz
      · exact .inr (Nat.le_refl _)
  · rintro c ⟨oc, hc, hw⟩
    by_cases e:c=b'
    · rcases hb' with e' | e'
      · exact .inl (by rw [e,e']; exact ⟨o,hb,how⟩)
      · exact .inr (by omega)
    · rw [xI _ _ e] at hc
      obtain ⟨_,hc⟩:=hdel c oc hc
      exact .inl ⟨oc,hc,hw⟩
theorem Mem.drew (m:Mem V Z H w):Mem V Z H w.drew∧Ext Z H w Z H w.drew∧Keeps Z w Z w.drew :=
  have k:Keeps Z w Z w.drew:=⟨Nat.le_refl _,fun _ _ _=>rfl,fun _ _ h=>h⟩
  ⟨⟨fun b o h=>(m.heap b o h).keep k fun hw=>⟨m.own b ⟨o,h,hw⟩,rfl⟩,m.zlt,m.env.keep k,m.lt⟩,
    ⟨rfl,rfl,rfl,Nat.le_refl _,fun _ _ _=>rfl,fun _ h=>.inl h,fun _ h _=>h,fun _ h=>.inl h⟩,k⟩
def yN (P:Program) (t:TypeId):Option (Bool×Nat) :=
  match P.underlying t,P.info? t with
  | some (.struct _),some i=>some (true,i.size)
  | some (.array ..),some i=>some (true,i.size)
  | some _,some i=>some (false,i.size)
  | _,_=>none
theorem uA {t:TypeId} {g:Bool} {n:Nat} (h:yN P t=some (g,n)) (w:World):(isAgg t).run P w=.ok g w∧(sizeOf t).run P w=.ok n w:=by
  unfold yN at h
  split at h <;> first
    | (cases h; done)
    | (rename_i hu hi
       cases h
       refine ⟨?_,by simp [sizeOf,typeInfo,hi]⟩
       simp [isAgg,run_underlying hu]
       try split <;> simp_all)
theorem qF (b o n:Nat):(⟨b,o,none⟩:Addr).add n=⟨b,o+n,none⟩:=by unfold Addr.add; split <;> simp_all
theorem zBO {t:TypeId} {n b o:Nat} {cv:List Value} (h:yN P t=some (true,n)) (hl:cv.length=n) (hc:∀ j (hj:j < cv.length),w.cell? ⟨b,o+j,none⟩=some cv[j]) :
    (loadVar t ⟨b,o,none⟩).run P w=.ok (.agg cv.toArray) w:=by
  obtain ⟨h1,h2⟩:=uA h w
  have h3:=run_loadCells_list (P:=P) w ⟨b,o,none⟩ cv (fun j v hv=>by
    rw [qF]
    obtain ⟨hj,e⟩:=List.getElem?_eq_some_iff.1 hv
    rw [hc j hj,e])
  rw [hl] at h3
  simp [loadVar,h1,h2,h3]
theorem zBP {t:TypeId} {n b o:Nat} {v:Value} (h:yN P t=some (false,n)) (hc:w.cell? ⟨b,o,none⟩=some v) :
    (loadVar t ⟨b,o,none⟩).run P w=.ok v w:=by
  obtain ⟨h1,h2⟩:=uA h w
  simp [loadVar,h1,hc]
theorem zDl {t T:TypeId} {g:Bool} {n b o:Nat} {v:Value} {cur:Array Value} (h:yN P t=some (g,n)) (hn:v.cells.size=n) (h1:∀ u ∈ v.cells.toList,u.oneCell'=true)
    (hg:w.heap[b]?=some (.cells cur T (0,0))) (hfit:o+n≤cur.size) :
    (storeVar t ⟨b,o,none⟩ v).run P w=.ok () (w.setRow b (cur.toList.take o++v.cells.toList++cur.toList.drop (o+n)).toArray):=by
  obtain ⟨_,h2⟩:=uA h w
  have:=run_storeCells_at P b o T v.cells.toList 0 cur w hg (by simp [hn]; omega) h1
  simp only [Nat.add_zero,Array.length_toList,hn] at this
  simp [storeVar,h2,hn,this]
def yB {α:Type} (cs:List α) (o:Nat) (xs:List α):List α:=cs.take o++xs++cs.drop (o+xs.length)
theorem xW {α:Type} {cs:List α} {o:Nat} {xs:List α} (h:o+xs.length≤cs.length):(yB cs o xs).length=cs.length:=by
  simp only [yB,List.length_append,List.length_take,List.length_drop]; omega
theorem wL {α:Type} {cs:List α} {o:Nat} {xs:List α} (h:o+xs.length≤cs.length) (j:Nat) :
    (yB cs o xs)[j]?=if j < o then cs[j]? else if j < o+xs.length then xs[j - o]? else cs[j]?:=by
  have h1:(cs.take o).length=o:=by simp; omega
  unfold yB
  by_cases a:j < o
  · rw [List.getElem?_append_left (by simp; omega), List.getElem?_append_left (by omega), List.getElem?_take]
    simp [a]
  · by_cases c : j < o + xs.length
    · rw [List.getElem?_append_left (by simp; omega), List.getElem?_append_right (by omega), h1]
      simp [a,c]
    · rw [List.getElem?_append_right (by simp; omega), List.getElem?_drop]
      simp only [a,c,if_false,List.length_append,h1]
      congr 1; omega
theorem zEA {R:Value→A→Prop} {cv xs:List Value} {cs ys:List A} {o:Nat} (hl:cv.length=cs.length) (hx:xs.length=ys.length) (hfit:o+xs.length≤cv.length)
    (hr:∀ j (h:j < cv.length) (h':j < cs.length),R cv[j] cs[j]) (hy:∀ j (h:j < xs.length) (h':j < ys.length),R xs[j] ys[j]) :
    ∀ j (h:j < (yB cv o xs).length) (h':j < (yB cs o ys).length),R (yB cv o xs)[j] (yB cs o ys)[j]:=by
  intro j h h'
  have e1:=wL (cs:=cv) (o:=o) (xs:=xs) hfit j
  have e2:=wL (cs:=cs) (o:=o) (xs:=ys) (by omega) j
  rw [List.getElem?_eq_getElem h] at e1
  rw [List.getElem?_eq_getElem h'] at e2
  rw [xW hfit] at h
  by_cases a:j < o
  · simp only [a, if_true] at e1 e2
    rw [List.getElem?_eq_getElem (by omega),Option.some.injEq] at e1
    rw [List.getElem?_eq_getElem (by omega),Option.some.injEq] at e2
    rw [e1,e2]; exact hr j _ _
  · by_cases c : j < o + xs.length
    · simp only [a, c, hx ▸ c, if_true, if_false] at e1 e2
      rw [List.getElem?_eq_getElem (by omega),Option.some.injEq] at e1
      rw [List.getElem?_eq_getElem (by omega),Option.some.injEq] at e2
      rw [e1,e2]; exact hy _ _ _
    · simp only [a, c, show ¬ j < o + ys.length by omega, if_false] at e1 e2
      rw [List.getElem?_eq_getElem (by omega),Option.some.injEq] at e1
      rw [List.getElem?_eq_getElem (by omega),Option.some.injEq] at e2
      rw [e1,e2]; exact hr j _ _
def A.good:A→Bool
  | .undef | .tup _=>false
  | _=>true
theorem zD2 {v:Value} {x:D} (h:RepD V w Z v x):v.cells.toList.length=x.cells.length∧(∀ u ∈ v.cells.toList,u.oneCell'=true) ∧
    ∀ j (h:j < v.cells.toList.length) (h':j < x.cells.length),RepD V w Z v.cells.toList[j] x.cells[j]:=by
  have one:∀ (v:Value) (x:D),v.cells=#[v]→x.cells=[x]→v.oneCell'=true→RepD V w Z v x→v.cells.toList.length=x.cells.length∧(∀ u ∈ v.cells.toList,u.oneCell'=true) ∧
      ∀ j (h:j < v.cells.toList.length) (h':j < x.cells.length),RepD V w Z v.cells.toList[j] x.cells[j]:=by
    intro v x e1 e2 h1 hr
    refine ⟨by simp [e1,e2],by simp [e1,h1], ?_⟩
    intro j h h'
    simp [e2] at h'
    subst h'
    simpa [e1,e2] using hr
  cases h with
  | int k n=>exact one _ _ rfl rfl rfl (.int ..)
  | bool b=>exact one _ _ rfl rfl rfl (.bool ..)
  | str s=>exact one _ _ rfl rfl rfl (.str ..)
  | raw v h1 =>
    refine one _ _ ?_ rfl h1 (.raw v h1)
    cases v <;> first | rfl | simp [Value.oneCell'] at h1
  | sent g=>exact one _ _ rfl rfl rfl (.sent g)
  | empty a c=>exact one _ _ rfl rfl rfl (.empty ..)
  | slice b o cap es sz cv hk hz hb hs hc h1 hr=>exact one _ _ rfl rfl rfl (.slice b o cap es sz cv hk hz hb hs hc h1 hr)
  | agg cv cs hl h1 hr=>exact ⟨by simpa [Value.cells,D.cells] using hl,by simpa [Value.cells] using h1,by simpa [Value.cells,D.cells] using hr⟩
theorem zHK {v:Value} {x:A} (hg:x.good=true) (h:RepA V w Z v x):v.cells.toList.length=x.cells.length∧(∀ u ∈ v.cells.toList,u.oneCell'=true) ∧
    ∀ j (h:j < v.cells.toList.length) (h':j < x.cells.length),RepA V w Z v.cells.toList[j] x.cells[j]:=by
  have one:∀ (v:Value) (x:A),v.cells=#[v]→x.cells=[x]→v.oneCell'=true→RepA V w Z v x→v.cells.toList.length=x.cells.length∧(∀ u ∈ v.cells.toList,u.oneCell'=true) ∧
      ∀ j (h:j < v.cells.toList.length) (h':j < x.cells.length),RepA V w Z v.cells.toList[j] x.cells[j]:=by
    intro v x e1 e2 h1 hr
    refine ⟨by simp [e1,e2],by simp [e1,h1], ?_⟩
    intro j h h'
    simp [e2] at h'
    subst h'
    simpa [e1,e2] using hr
  cases h with
  | undef=>simp [A.good] at hg
  | d v x h =>
    obtain ⟨h1,h2,h3⟩:=zD2 h
    refine ⟨by simpa [A.cells] using h1,h2, ?_⟩
    intro j hj hj'
    simp only [A.cells,List.getElem_map]
    exact .d _ _ (h3 j hj (by simpa [A.cells] using hj'))
  | nils=>exact one _ _ rfl rfl rfl .nils
  | agg cv cs hl h1 hr=>exact ⟨by simpa [Value.cells,A.cells] using hl,by simpa [Value.cells] using h1,by simpa [Value.cells,A.cells] using hr⟩
  | tup=>simp [A.good] at hg
  | ref b o=>exact one _ _ rfl rfl rfl (.ref ..)
  | imm b o cs cv hz hb hc h1 hr=>exact one _ _ rfl rfl rfl (.imm b o cs cv hz hb hc h1 hr)
  | own b v hb =>
    cases v <;> first | exact one _ _ rfl rfl rfl (.own _ _ hb) | simp [Value.ownBlock] at hb
  | eref=>exact one _ _ rfl rfl rfl (.eref ..)
  | func f cv cs hl hr=>exact one _ _ rfl rfl rfl (.func f cv cs hl hr)
  | mp b=>exact one _ _ rfl rfl rfl (.mp b)
  | yld b=>exact one _ _ rfl rfl rfl (.yld b)
  | meth f bv bs hl hr=>exact one _ _ rfl rfl rfl (.meth f bv bs hl hr)
def allD:List A→Option (List D)
  | []=>some []
  | .d x::l=>(allD l).map (x::·)
  | _=>none
def aggN (cs:List A):A:=match allD cs with
  | some ds=>.d (.agg ds)
  | none=>.agg cs
theorem zKp:∀ {cs:List A} {ds:List D},allD cs=some ds→cs=ds.map .d
  | [],ds,h=>by cases h; rfl
  | .d x::l,ds,h=>by
    simp only [allD,Option.map_eq_some_iff] at h
    obtain ⟨y,hy,rfl⟩:=h
    rw [zKp hy]; rfl
  | .undef::_,_,h | .nils::_,_,h | .agg _::_,_,h | .tup _::_,_,h | .ref .. :: _,_,h | .imm _::_,_,h | .own .. :: _,_,h | .eref .. :: _,_,h | .func .. :: _,_,h | .mp _::_,_,h=>by cases h
theorem zIv (ds:List D):allD (ds.map .d)=some ds:=by
  induction ds with
  | nil=>rfl
  | cons x l ih=>simp [allD,ih]
theorem zCm {v:Value} {cs:List A} (r:RepA V w Z v (.agg cs)):RepA V w Z v (aggN cs):=by
  unfold aggN
  split
  · rename_i ds h
    have:=zKp h
    subst this
    cases r with
    | agg cv _ hl h1 hr =>
      refine .d _ _ (.agg cv ds (by simpa using hl) h1 ?_)
      intro j hj hj'
      have:=hr j hj (by simpa using hj')
      rw [List.getElem_map] at this
      generalize cv[j]=u at this ⊢
      cases this; assumption
  · exact r
end
end Go.Aug

/-
  The abstract layer, part E: loads, stores, fields, elements, cuts.
-/
namespace Go.Aug
section
variable {P:Program} {V:Env} {Z:Nat→Prop} {H:Heap} {w:World}
theorem xJ {sz:Nat}:∀ {es:List D},(∀ e ∈ es,(D.cells e).length=sz)→(flat es).length=es.length * sz
  | [],_=>by simp [flat]
  | e::es,h=>by
    have h1:=h e (.head _)
    have h2:=xJ (es:=es) (fun x hx=>h x (.tail _ hx))
    simp only [flat,List.flatMap_cons,List.length_append,List.length_cons] at h2 ⊢
    rw [h1,Nat.add_mul]; omega
theorem jB {sz:Nat}:∀ {es:List D},(∀ e ∈ es,(D.cells e).length=sz)→∀ (i j:Nat) (hi:i < es.length),j < sz→(flat es)[i * sz+j]?=es[i].cells[j]?
  | [],_,i,j,hi,_=>by simp at hi
  | e::es,h,i,j,hi,hj=>by
    have h1:=h e (.head _)
    simp only [flat,List.flatMap_cons]
    cases i with
    | zero =>
      simp only [Nat.zero_mul,Nat.zero_add,List.getElem_cons_zero]
      rw [List.getElem?_append_left (by omega)]
    | succ i =>
      have:=jB (es:=es) (fun x hx=>h x (.tail _ hx)) i j (by simpa using hi) hj
      rw [List.getElem?_append_right (by rw [h1,Nat.add_mul]; omega),h1,show (i+1) * sz+j - sz=i * sz+j by rw [Nat.add_mul]; omega]
      simpa [flat] using this
theorem kA {sz:Nat} {es:List D} (h:∀ e ∈ es,(D.cells e).length=sz) (l m:Nat) (hm:m≤es.length) (j:Nat) (hj:j < (flat ((es.take m).drop l)).length) :
    l * sz+j < (flat es).length∧(flat ((es.take m).drop l))[j]?=(flat es)[l * sz+j]?:=by
  have hs:∀ e ∈ (es.take m).drop l,(D.cells e).length=sz:=fun e he=>h e (List.mem_of_mem_take (List.mem_of_mem_drop he))
  have hl:=xJ hs
  have hl':=xJ h
  rw [hl] at hj
  simp only [List.length_drop,List.length_take] at hj
  have hsz:0 < sz:=by
    rcases Nat.eq_zero_or_pos sz with h0 | h0
    · subst h0; simp at hj
    · exact h0
  obtain ⟨q,r,rfl,hr⟩:∃ q r,j=q * sz+r∧r < sz:=⟨j / sz,j % sz,by rw [Nat.mul_comm]; exact (Nat.div_add_mod j sz).symm,Nat.mod_lt _ hsz⟩
  have hq:q < min m es.length - l:=by
    refine Nat.lt_of_not_le fun hh=>?_
    have:=Nat.mul_le_mul_right sz hh
    omega
  constructor
  · rw [hl']
    calc l * sz+(q * sz+r) < l * sz+(q * sz+sz):=by omega
      _=(l+q+1) * sz:=by simp only [Nat.add_mul]; omega
      _≤es.length * sz:=Nat.mul_le_mul_right _ (by omega)
  · rw [jB hs _ _ (by simp; omega) hr, show l * sz + (q * sz + r) = (l + q) * sz + r by rw [Nat.add_mul]; omega,
      jB h _ _ (by omega) hr]
    congr 2
    simp
theorem zEd {v:Value} {x:D} (h:RepD V w Z v x) (h1:v.oneCell'=true):x.cells=[x]:=by
  cases h <;> first | rfl | simp [Value.oneCell'] at h1
theorem zB6 {b:Nat} {E:TypeId} {sz:Nat} {v:Value} {ds:List D} (h:ObjRep V w Z b (.arr E sz v ds)) :
    ∃ (cap:Nat) (cur:Array Value),v=.slice (some ⟨b,0,none⟩) ds.length cap∧w.heap[b]?=some (.cells cur E (0,0))∧ds.length≤cap∧cap≤maxLen∧cur.size=cap * sz∧0 < sz ∧
      (∀ d ∈ ds,(D.cells d).length=sz) ∧
      (∀ j (hj:j < (flat ds).length),∃ hc:j < cur.size,cur[j].oneCell'=true∧RepD V w Z cur[j] (flat ds)[j]):=by
  obtain ⟨_,h0,hs,hv,xs,how,hl,h1,hr⟩:=h
  rcases how.2 with ⟨rfl,_⟩ | ⟨g,cap,cur,rfl,h2,h3,h4,h5,h6,h7⟩
  · simp [Value.ownBlock] at hv
  · simp [Value.ownBlock] at hv
    subst hv
    refine ⟨cap,cur,rfl,h3,h4,h5,h6,h0,hs,fun j hj=>?_⟩
    rw [←hl] at hj
    have hc:j < cur.size:=by
      rw [h6]; have:=how.1; rw [this] at hj
      exact Nat.lt_of_lt_of_le hj (Nat.mul_le_mul_right _ h4)
    have e:xs[j]=cur[j]:=by
      have:(cur.toList.take (ds.length * sz))[j]?=some xs[j]:=by rw [h7]; exact List.getElem?_eq_getElem hj
      rw [List.getElem?_take] at this
      have hj':=hj
      rw [how.1] at hj'
      simp only [hj',if_true] at this
      simpa [hc] using this.symm
    refine ⟨hc, ?_, ?_⟩
    · rw [←e]; exact h1 _ (List.getElem_mem hj)
    · rw [←e]; exact hr j hj (by rw [←hl]; exact hj)
def zDu:D→A
  | .raw v=>match v with
    | .slice none 0 0=>.nils
    | v=>match v.ownBlock with
      | some b=>.own b v
      | none=>.d (.raw v)
  | x=>.d x
theorem zEB {v:Value} {x:D} (r:RepD V w Z v x):RepA V w Z v (zDu x):=by
  cases r with
  | raw v h =>
    simp only [zDu]
    split
    · exact .nils
    · split
      · rename_i b hb; exact .own b v hb
      · exact .d _ _ (.raw v h)
  | int k n=>exact .d _ _ (.int k n)
  | bool b=>exact .d _ _ (.bool b)
  | str s=>exact .d _ _ (.str s)
  | sent g=>exact .d _ _ (.sent g)
  | empty a c=>exact .d _ _ (.empty a c)
  | slice b o cap es sz cv hk hz hb hs hc h1 hr=>exact .d _ _ (.slice b o cap es sz cv hk hz hb hs hc h1 hr)
  | agg cv cs hl h1 hr=>exact .d _ _ (.agg cv cs hl h1 hr)
def putE (H:Heap) (y:A) (K:D→Heap→Prop):Prop:=match y with
  | .own b v=>xG H (.own b v) K∨K (.raw v) H
  | y=>xG H y K
def xT (P:Program) (t:TypeId) (x:A) (H:Heap) (K:A→Prop):Prop :=
  match x with
  | .ref b off=>match H b,yN P t with
    | some (.var cs),some (true,n)=>off+n≤cs.length∧K (aggN ((cs.drop off).take n))
    | some (.var cs),some (false,_)=>match cs[off]? with
      | some c=>K c
      | none=>False
    | _,_=>False
  | .imm ds=>match yN P t with
    | some (true,n)=>n≤ds.length∧K (.d (.agg (ds.take n)))
    | some (false,_)=>match ds[0]? with
      | some c=>K (zDu c)
      | none=>False
    | none=>False
  | .eref b v sz i off=>match H b,yN P t with
    | some (.arr _ sz' v' ds),some (true,n)=>match ds[i]? with
      | some e=>v'=v∧sz'=sz∧off+n≤e.cells.length∧K (.d (.agg ((e.cells.drop off).take n)))
      | none=>False
    | some (.arr _ sz' v' ds),some (false,_)=>match ds[i]? with
      | some e=>v'=v∧sz'=sz∧match e.cells[off]? with
        | some c=>K (zDu c)
        | none=>False
      | none=>False
    | _,_=>False
  | _=>False
theorem zEz {o n b:Nat} {ds:List D} (cv:Nat→Value) (hl:n=ds.length) (hc:∀ j,j < ds.length→w.cell? ⟨b,o+j,none⟩=some (cv j))
    (h1:∀ j,j < ds.length→(cv j).oneCell'=true) (hr:∀ j (h:j < ds.length),RepD V w Z (cv j) ds[j]) :
    ∃ l:List Value,l.length=n∧(∀ j (hj:j < l.length),w.cell? ⟨b,o+j,none⟩=some l[j])∧RepD V w Z (.agg l.toArray) (.agg ds):=by
  subst hl
  refine ⟨(List.range ds.length).map cv,by simp, ?_,.agg _ _ (by simp) ?_ ?_⟩
  · intro j hj; simp at hj; simp [hc j hj]
  · intro v hv; simp at hv; obtain ⟨j,hj,rfl⟩:=hv; exact h1 j hj
  · intro j h h'; simp at h; simpa using hr j h
theorem zDU {t:TypeId} {x:A} {K:A→Prop} {v:Value} (h:xT P t x H K) (m:Mem V Z H w) (r:RepA V w Z v x) :
    ∃ u y,(Instr.loadAt t v).run P w=.ok u w∧RepA V w Z u y∧K y:=by
  cases r with
  | ref b off =>
    simp only [xT] at h
    simp only [Instr.loadAt,Instr.sureAddr,Sem.run_bind,Sem.run_pure,Result.andThen_ok]
    split at h
    · rename_i cs n hb hs
      obtain ⟨hle,hK⟩:=h
      obtain ⟨_,cv,T,hh,hl,h1,hr⟩:=m.heap b _ hb
      refine ⟨.agg ((cv.drop off).take n).toArray,_, ?_,zCm (.agg _ _ ?_ ?_ ?_),hK⟩
      · refine zBO hs (by simp; omega) ?_
        intro j hj
        simp only [List.length_take,List.length_drop] at hj
        simp [World.cell?,hh,show off+j < cv.length by omega]
      · simp; omega
      · intro u hu; exact h1 u (List.mem_of_mem_drop (List.mem_of_mem_take hu))
      · intro j hj hj'
        simp only [List.length_take,List.length_drop] at hj hj'
        simpa using hr (off+j) (by omega) (by omega)
    · rename_i cs n hb hs
      split at h
      · rename_i c hc
        obtain ⟨_,cv,T,hh,hl,h1,hr⟩:=m.heap b _ hb
        obtain ⟨hlt,e⟩:=List.getElem?_eq_some_iff.1 hc
        subst e
        exact ⟨_,_,zBP hs (v:=cv[off]) (by simp [World.cell?,hh,show off < cv.length by omega]),hr off (by omega) hlt,h⟩
      · exact h.elim
    · exact h.elim
  | imm b o cs cv hz hb hc h1 hr =>
    simp only [xT] at h
    simp only [Instr.loadAt,Instr.sureAddr,Sem.run_bind,Sem.run_pure,Result.andThen_ok]
    split at h
    · rename_i n hs
      obtain ⟨hle,hK⟩:=h
      obtain ⟨l,hl,hcl,hrep⟩:=zEz (V:=V) (w:=w) (Z:=Z) (o:=o) (b:=b) (n:=n) (ds:=cs.take n) cv (by simp; omega)
        (fun j hj=>hc j (by simp at hj; omega)) (fun j hj=>h1 j (by simp at hj; omega)) (fun j hj=>by simpa using hr j (by simp at hj; omega))
      exact ⟨_,_,zBO hs hl hcl,.d _ _ hrep,hK⟩
    · rename_i n hs
      split at h
      · rename_i c hc0
        obtain ⟨hlt,e⟩:=List.getElem?_eq_some_iff.1 hc0
        subst e
        exact ⟨_,_,zBP hs (by simpa using hc 0 hlt),zEB (hr 0 hlt),h⟩
      · exact h.elim
    · exact h.elim
  | eref b v sz i off =>
    simp only [xT] at h
    simp only [Instr.loadAt,Instr.sureAddr,Sem.run_bind,Sem.run_pure,Result.andThen_ok]
    split at h
    · rename_i E sz' v' ds n hb hs
      split at h
      · rename_i e he
        obtain ⟨rfl,rfl,hle,hK⟩:=h
        obtain ⟨hi,rfl⟩:=List.getElem?_eq_some_iff.1 he
        obtain ⟨cap,cur,hv,hh,hcap,_,hcs,hsz,hu,hcur⟩:=zB6 (m.heap b _ hb)
        have hes:=hu _ (List.getElem_mem hi)
        have hfl:=xJ hu
        have key:∀ j,j < n→∃ hc:i * sz'+off+j < cur.size,cur[i * sz'+off+j].oneCell'=true∧∃ hd:off+j < ds[i].cells.length,RepD V w Z cur[i * sz'+off+j] (ds[i].cells[off+j]):=by
          intro j hj
          have hlt:i * sz'+(off+j) < (flat ds).length:=by
            rw [hfl]
            calc i * sz'+(off+j) < i * sz'+sz':=by omega
              _=(i+1) * sz':=by rw [Nat.add_mul]; omega
              _≤_:=Nat.mul_le_mul_right _ hi
          obtain ⟨a1,a2,a3⟩:=hcur _ hlt
          have hg:=jB hu i (off+j) hi (by omega)
          rw [List.getElem?_eq_getElem hlt,List.getElem?_eq_getElem (by omega),Option.some.injEq] at hg
          rw [hg] at a3
          have e:i * sz'+(off+j)=i * sz'+off+j:=by omega
          refine ⟨by omega,by simpa [e] using a2,by omega,by simpa [e] using a3⟩
        obtain ⟨l,hl,hcl,hrep⟩:=zEz (V:=V) (w:=w) (Z:=Z) (o:=i * sz'+off) (b:=b) (n:=n) (ds:=(ds[i].cells.drop off).take n) (fun j=>cur.getD (i * sz'+off+j) undef)
          (by simp; omega)
          (fun j hj=>by
            simp only [List.length_take,List.length_drop] at hj
            obtain ⟨a1,_,_⟩:=key j (by omega)
            simp [World.cell?,hh,a1])
          (fun j hj=>by
            simp only [List.length_take,List.length_drop] at hj
            obtain ⟨a1,a2,_⟩:=key j (by omega)
            simpa [a1] using a2)
          (fun j hj=>by
            simp only [List.length_take,List.length_drop] at hj
            obtain ⟨a1,_,a3,a4⟩:=key j (by omega)
            simpa [a1] using a4)
        exact ⟨_,_,zBO hs hl hcl,.d _ _ hrep,hK⟩
      · exact h.elim
    · rename_i E sz' v' ds n hb hs
      split at h
      · rename_i e he
        obtain ⟨rfl,rfl,h⟩:=h
        obtain ⟨hi,rfl⟩:=List.getElem?_eq_some_iff.1 he
        split at h
        · rename_i c hc
          obtain ⟨hlt,rfl⟩:=List.getElem?_eq_some_iff.1 hc
          obtain ⟨cap,cur,hv,hh,hcap,_,hcs,hsz,hu,hcur⟩:=zB6 (m.heap b _ hb)
          have hes:=hu _ (List.getElem_mem hi)
          have hfl:=xJ hu
          have hlt':i * sz'+off < (flat ds).length:=by
            rw [hfl]
            calc i * sz'+off < i * sz'+sz':=by omega
              _=(i+1) * sz':=by rw [Nat.add_mul]; omega
              _≤_:=Nat.mul_le_mul_right _ hi
          obtain ⟨a1,a2,a3⟩:=hcur _ hlt'
          have hg:=jB hu i off hi (by omega)
          rw [List.getElem?_eq_getElem hlt',List.getElem?_eq_getElem hlt,Option.some.injEq] at hg
          rw [hg] at a3
          exact ⟨_,_,zBP hs (v:=cur[i * sz'+off]) (by simp [World.cell?,hh,a1]),zEB a3,h⟩
        · exact h.elim
      · exact h.elim
    · exact h.elim
  | undef | d | nils | agg | tup | own | func | mp | yld | meth=>simp [xT] at h
def D.withCells (e:D) (cs:List D):D :=
  match e with
  | .agg _=>.agg cs
  | _=>cs.headD e
def yU (P:Program) (t:TypeId) (x y:A) (H:Heap) (K:Heap→Prop):Prop :=
  match x with
  | .ref b off=>match H b,yN P t with
    | some (.var cs),some (_,n)=>y.good=true∧y.cells.length=n∧off+n≤cs.length∧K (upd H b (.var (yB cs off y.cells)))
    | _,_=>False
  | .eref b v sz i off=>putE H y fun d H=>match H b,yN P t with
    | some (.arr E sz' v' ds),some (_,n)=>match ds[i]? with
      | some e=>v'=v∧sz'=sz∧d.cells.length=n∧off+n≤e.cells.length∧K (upd H b (.arr E sz v (ds.set i (e.withCells (yB e.cells off d.cells)))))
      | none=>False
    | _,_=>False
  | _=>False
theorem zJL (y:A) {K:D→Heap→Prop} {v:Value} (h:putE H y K) (m:Mem V Z H w) (r:RepA V w Z v y) :
    ∃ x H' Z',RepD V w Z' v x∧Mem V Z' H' w∧Ext Z H w Z' H' w∧K x H':=by
  unfold putE at h
  split at h
  · rename_i b v'
    rcases h with h | h
    · exact jS _ h m r
    · cases r with
      | own _ _ hb=>exact ⟨_,H,Z,.raw v (by cases v <;> first | rfl | simp [Value.ownBlock] at hb),m,.refl ..,h⟩
  · exact jS _ h m r
theorem zDr {t:TypeId} {b off:Nat} {y:A} {K:Heap→Prop} {v:Value} (h:yU P t (.ref b off) y H K) (m:Mem V Z H w) (r:RepA V w Z v y) :
    ∃ H' w',(Instr.storeAt t (.pointer (some ⟨b,off,none⟩)) v).run P w=.ok () w'∧Mem V Z H' w'∧Ext Z H w Z H' w'∧K H':=by
  simp only [yU] at h
  split at h
  · rename_i cs g n hb hs
    obtain ⟨hg,hn,hfit,hK⟩:=h
    obtain ⟨hcl,hc1,hcr⟩:=zHK hg r
    obtain ⟨hz,cv,T,hh,hl,h1,hr⟩:=m.heap b _ hb
    have hrun:=zDl (P:=P) (w:=w) (t:=t) (b:=b) (o:=off) (v:=v) hs (by rw [←Array.length_toList,hcl,hn]) hc1 hh (by simp; omega)
    have hfit':off+v.cells.toList.length≤cv.length:=by omega
    have hnew:(cv.toArray.toList.take off++v.cells.toList++cv.toArray.toList.drop (off+n))=yB cv off v.cells.toList:=by
      simp only [yB]; rw [hcl,hn]
    rw [hnew] at hrun
    have hone:∀ u ∈ yB cv off v.cells.toList,u.oneCell'=true:=by
      intro u hu
      simp only [yB,List.mem_append] at hu
      rcases hu with (hu | hu) | hu
      · exact h1 u (List.mem_of_mem_take hu)
      · exact hc1 u hu
      · exact h1 u (List.mem_of_mem_drop hu)
    obtain ⟨m',x',k⟩:=m.set (o':=.var (yB cs off y.cells)) hb rfl (w':=w.setRow b (yB cv off v.cells.toList).toArray) rfl rfl rfl (by simp) (fun k hk=>setRow_other w b k _ hk)
      (fun k=>⟨hz,yB cv off v.cells.toList,T,setRow_heap w b _ _ T _ hh,by rw [xW hfit',xW (by omega),hl],hone,
        zEA hl hcl hfit' (fun j h h'=>(hr j h h').keep k) (fun j h h'=>(hcr j h h').keep k)⟩)
    exact ⟨_,_,by simpa [Instr.storeAt,Instr.sureAddr] using hrun,m',x',hK⟩
  · exact h.elim
end
end Go.Aug

/-
  The abstract layer, part F: stores into elements, fields, elements' places, cuts.
-/
namespace Go.Aug
section
variable {P:Program} {V:Env} {Z:Nat→Prop} {H:Heap} {w:World}
theorem zE2 {e:D} {cs:List D} (hl:cs.length=e.cells.length) (hleaf:∀ c ∈ cs,c.cells=[c]):(e.withCells cs).cells=cs:=by
  cases e with
  | agg=>rfl
  | _ =>
    simp only [D.cells,List.length_cons,List.length_nil] at hl
    match cs,hl with
    | [c],_=>simpa [D.withCells] using hleaf c (by simp)
theorem zMX {sz:Nat} {es:List D} (h:∀ e ∈ es,(D.cells e).length=sz) (i:Nat) (hi:i < es.length) (e':D) (he:e'.cells.length=sz) :
    flat (es.set i e')=yB (flat es) (i * sz) e'.cells:=by
  have hu':∀ e ∈ es.set i e',(D.cells e).length=sz:=fun e hm=>by
    rcases List.mem_or_eq_of_mem_set hm with h1 | h1
    · exact h e h1
    · rw [h1]; exact he
  have hfl:=xJ h
  have hfl':=xJ hu'
  rw [List.length_set] at hfl'
  have hfit:i * sz+e'.cells.length≤(flat es).length:=by
    rw [hfl,he]
    calc i * sz+sz=(i+1) * sz:=by rw [Nat.add_mul]; omega
      _≤_:=Nat.mul_le_mul_right _ hi
  apply List.ext_getElem?
  intro j
  rw [wL hfit]
  by_cases hj:j < es.length * sz
  · have hsz : 0 < sz := by
      rcases Nat.eq_zero_or_pos sz with h0 | h0
      · subst h0; simp at hj
      · exact h0
    obtain ⟨q,r,rfl,hr⟩:∃ q r,j=q * sz+r∧r < sz:=⟨j / sz,j % sz,by rw [Nat.mul_comm]; exact (Nat.div_add_mod j sz).symm,Nat.mod_lt _ hsz⟩
    have hq:q < es.length:=by
      refine Nat.lt_of_not_le fun hh=>?_
      have:=Nat.mul_le_mul_right sz hh
      omega
    rw [jB hu' q r (by simpa using hq) hr]
    by_cases e:q=i
    · subst e
      rw [if_neg (by omega),if_pos (by omega)]
      simp
    · have : (es.set i e')[q]'(by simpa using hq) = es[q] := by simp [Ne.symm e]
      rw [this,←jB h q r hq hr]
      by_cases hlt:q < i
      · have := Nat.mul_le_mul_right sz (show q + 1 ≤ i from hlt)
        rw [Nat.add_mul] at this
        rw [if_pos (by omega)]
      · have := Nat.mul_le_mul_right sz (show i + 1 ≤ q by omega)
        rw [Nat.add_mul] at this
        rw [if_neg (by omega),if_neg (by omega)]
  · rw [List.getElem?_eq_none (by omega), List.getElem?_eq_none (show (flat es).length ≤ j by omega)]
    have:List.length (D.cells e')=sz:=he
    have h2:i * sz+sz≤es.length * sz:=by
      calc i * sz+sz=(i+1) * sz:=by rw [Nat.add_mul]; omega
        _≤_:=Nat.mul_le_mul_right _ hi
    rw [if_neg (by omega),if_neg (by omega)]
theorem zHf {R:Value→D→Prop} {cv xs:List Value} {cs ys:List D} {o:Nat} (hl:cv.length=cs.length) (hx:xs.length=ys.length) (hfit:o+xs.length≤cv.length)
    (hr:∀ j (h:j < cv.length) (h':j < cs.length),R cv[j] cs[j]) (hy:∀ j (h:j < xs.length) (h':j < ys.length),R xs[j] ys[j]) :
    ∀ j (h:j < (yB cv o xs).length) (h':j < (yB cs o ys).length),R (yB cv o xs)[j] (yB cs o ys)[j]:=by
  intro j h h'
  have e1:=wL (cs:=cv) (o:=o) (xs:=xs) hfit j
  have e2:=wL (cs:=cs) (o:=o) (xs:=ys) (by omega) j
  rw [List.getElem?_eq_getElem h] at e1
  rw [List.getElem?_eq_getElem h'] at e2
  rw [xW hfit] at h
  by_cases a:j < o
  · simp only [a, if_true] at e1 e2
    rw [List.getElem?_eq_getElem (by omega),Option.some.injEq] at e1
    rw [List.getElem?_eq_getElem (by omega),Option.some.injEq] at e2
    rw [e1,e2]; exact hr j _ _
  · by_cases c : j < o + xs.length
    · simp only [a, c, hx ▸ c, if_true, if_false] at e1 e2
      rw [List.getElem?_eq_getElem (by omega),Option.some.injEq] at e1
      rw [List.getElem?_eq_getElem (by omega),Option.some.injEq] at e2
      rw [e1,e2]; exact hy _ _ _
    · simp only [a, c, show ¬ j < o + ys.length by omega, if_false] at e1 e2
      rw [List.getElem?_eq_getElem (by omega),Option.some.injEq] at e1
      rw [List.getElem?_eq_getElem (by omega),Option.some.injEq] at e2
      rw [e1,e2]; exact hr j _ _
theorem zER {α:Type} {cs xs ys:List α} {a o:Nat} (h1:a+xs.length≤cs.length) (h2:o+ys.length≤xs.length) (hxs:∀ j,j < xs.length→cs[a+j]?=xs[j]?) :
    yB cs a (yB xs o ys)=yB cs (a+o) ys:=by
  have hl:=xW h2
  apply List.ext_getElem?
  intro j
  have e1:=wL (cs:=cs) (o:=a) (xs:=yB xs o ys) (by rw [hl]; exact h1) j
  have e2:=wL (cs:=cs) (o:=a+o) (xs:=ys) (by omega) j
  have e3:=wL (cs:=xs) (o:=o) (xs:=ys) h2 (j - a)
  rw [e1,e2,e3,hl]
  by_cases c1:j < a
  · simp [c1,show j < a+o by omega]
  · by_cases c2 : j < a + xs.length
    · have hx := hxs (j - a) (by omega)
      rw [show a+(j - a)=j by omega] at hx
      by_cases c3:j - a < o
      · simp [c1,c2,c3,show j < a+o by omega,hx]
      · by_cases c4 : j - a < o + ys.length
        · simp only [c1, c2, c3, c4, show ¬ j < a + o by omega, show j < a + o + ys.length by omega, if_true, if_false]
          congr 1; omega
        · simp [c1,c2,c3,c4,show ¬ j < a+o by omega,show ¬ j < a+o+ys.length by omega,hx]
    · simp [c1,c2,show ¬ j < a+o by omega,show ¬ j < a+o+ys.length by omega]
theorem zFT {cv:List Value} {cs:List D} (hl:cv.length=cs.length) (h1:∀ v ∈ cv,v.oneCell'=true)
    (hr:∀ j (h:j < cv.length) (h':j < cs.length),RepD V w Z cv[j] cs[j]):∀ c ∈ cs,c.cells=[c]:=by
  intro c hc
  obtain ⟨j,hj,rfl⟩:=List.getElem_of_mem hc
  exact zEd (hr j (by omega) hj) (h1 _ (List.getElem_mem _))
theorem zAs {b:Nat} {E:TypeId} {sz:Nat} {v:Value} {ds:List D} (h:ObjRep V w Z b (.arr E sz v ds)) :
    ∃ (cap:Nat) (cur:Array Value),v=.slice (some ⟨b,0,none⟩) ds.length cap∧w.heap[b]?=some (.cells cur E (0,0))∧ds.length≤cap∧cap≤maxLen∧cur.size=cap * sz∧0 < sz ∧
      (∀ d ∈ ds,(D.cells d).length=sz)∧(cur.toList.take (ds.length * sz)).length=(flat ds).length∧(∀ x ∈ cur.toList.take (ds.length * sz),x.oneCell'=true) ∧
      ∀ j (h:j < (cur.toList.take (ds.length * sz)).length) (h':j < (flat ds).length),RepD V w Z (cur.toList.take (ds.length * sz))[j] (flat ds)[j]:=by
  obtain ⟨_,h0,hs,hv,xs,how,hl,h1,hr⟩:=h
  rcases how.2 with ⟨rfl,_⟩ | ⟨g,cap,cur,rfl,h2,h3,h4,h5,h6,h7⟩
  · simp [Value.ownBlock] at hv
  · simp [Value.ownBlock] at hv
    subst hv
    subst h7
    exact ⟨cap,cur,rfl,h3,h4,h5,h6,h0,hs,hl,h1,hr⟩
theorem zA4 {b:Nat} {E:TypeId} {sz:Nat} {ds:List D} {cap:Nat} {cur:Array Value} (hz:Z b) (hh:w.heap[b]?=some (.cells cur E (0,0))) (h4:ds.length≤cap) (h5:cap≤maxLen) (h6:cur.size=cap * sz) (h0:0 < sz)
    (hs:∀ d ∈ ds,(D.cells d).length=sz) (h1:∀ x ∈ cur.toList.take (ds.length * sz),x.oneCell'=true)
    (hr:∀ j (h:j < (cur.toList.take (ds.length * sz)).length) (h':j < (flat ds).length),RepD V w Z (cur.toList.take (ds.length * sz))[j] (flat ds)[j]) :
    ObjRep V w Z b (.arr E sz (.slice (some ⟨b,0,none⟩) ds.length cap) ds):=by
  have hlen:(cur.toList.take (ds.length * sz)).length=ds.length * sz:=by
    simp only [List.length_take,Array.length_toList,h6]
    exact Nat.min_eq_left (Nat.mul_le_mul_right _ h4)
  exact ⟨hz,h0,hs,rfl,_,⟨hlen,.inr ⟨b,cap,cur,rfl,Nat.zero_le _,hh,h4,h5,h6,rfl⟩⟩,by rw [hlen,xJ hs],h1,hr⟩
theorem zCF {t:TypeId} {b:Nat} {v:Value} {sz i off:Nat} {y:A} {K:Heap→Prop} {u:Value} (h:yU P t (.eref b v sz i off) y H K) (m:Mem V Z H w) (r:RepA V w Z u y) :
    ∃ Z' H' w',(Instr.storeAt t (.pointer (some ⟨b,i * sz+off,none⟩)) u).run P w=.ok () w'∧Mem V Z' H' w'∧Ext Z H w Z' H' w'∧K H':=by
  simp only [yU] at h
  obtain ⟨d,H1,Z1,rd,m1,x1,h⟩:=zJL y h m r
  split at h
  · rename_i E sz' v' ds g n hb hs
    split at h
    · rename_i e he
      obtain ⟨rfl,rfl,hn,hfit,hK⟩:=h
      obtain ⟨hi,rfl⟩:=List.getElem?_eq_some_iff.1 he
      obtain ⟨hdl,hd1,hdr⟩:=zD2 rd
      obtain ⟨cap,cur,hv,hh,h4,h5,h6,h0,hu,hlf,h1c,hrc⟩:=zAs (m1.heap b _ hb)
      have hz:=m1.own b ⟨_,hb,rfl⟩
      have hes:=hu _ (List.getElem_mem hi)
      have hfl:=xJ hu
      have hle:i * sz'+sz'≤ds.length * sz':=by
        calc i * sz'+sz'=(i+1) * sz':=by rw [Nat.add_mul]; omega
          _≤_:=Nat.mul_le_mul_right _ hi
      have hcapsz:ds.length * sz'≤cap * sz':=Nat.mul_le_mul_right _ h4
      have hus:u.cells.size=d.cells.length:=by rw [←Array.length_toList,hdl]
      have hrun:=zDl (P:=P) (w:=w) (t:=t) (b:=b) (o:=i * sz'+off) (v:=u) hs (by rw [←Array.length_toList,hdl,hn]) hd1 hh (by omega)
      have hnew:(cur.toList.take (i * sz'+off)++u.cells.toList++cur.toList.drop (i * sz'+off+n))=yB cur.toList (i * sz'+off) u.cells.toList:=by
        simp only [yB]; rw [hdl,hn]
      rw [hnew] at hrun
      have hleafE:∀ c ∈ ds[i].cells,c.cells=[c]:=by
        intro c hc
        obtain ⟨j,hj,rfl⟩:=List.getElem_of_mem hc
        have hlt:i * sz'+j < (flat ds).length:=by omega
        have hg:=jB hu i j hi (by omega)
        rw [List.getElem?_eq_getElem hlt,List.getElem?_eq_getElem hj,Option.some.injEq] at hg
        rw [←hg]
        exact zEd (hrc _ (by omega) hlt) (h1c _ (List.getElem_mem _))
      have hleafD:=zFT (cv:=u.cells.toList) hdl hd1 hdr
      have hcells:(ds[i].withCells (yB ds[i].cells off d.cells)).cells=yB ds[i].cells off d.cells:=by
        refine zE2 (xW (by omega)) ?_
        intro c hc
        simp only [yB,List.mem_append] at hc
        rcases hc with (hc | hc) | hc
        · exact hleafE c (List.mem_of_mem_take hc)
        · exact hleafD c hc
        · exact hleafE c (List.mem_of_mem_drop hc)
      have hflat:flat (ds.set i (ds[i].withCells (yB ds[i].cells off d.cells)))=yB (flat ds) (i * sz'+off) d.cells:=by
        rw [zMX hu i hi _ (by rw [hcells,xW (by omega)]; exact hes),hcells]
        refine zER (by omega) (by omega) ?_
        intro j hj
        exact jB hu i j hi (by omega)
      have htake:(yB cur.toList (i * sz'+off) u.cells.toList).take (ds.length * sz')=yB (cur.toList.take (ds.length * sz')) (i * sz'+off) u.cells.toList:=by
        apply List.ext_getElem?
        intro j
        rw [List.getElem?_take,wL (by simp; omega),wL (by rw [hlf]; omega)]
        simp only [List.getElem?_take]
        by_cases c:j < ds.length * sz'
        · simp [c]
        · simp only [c, if_false]
          rw [if_neg (by omega),if_neg (by omega)]
      obtain ⟨m',x',k⟩:=m1.set (o':=.arr E sz' v' (ds.set i (ds[i].withCells (yB ds[i].cells off d.cells)))) hb rfl
        (w':=w.setRow b (yB cur.toList (i * sz'+off) u.cells.toList).toArray) rfl rfl rfl (by simp) (fun k hk=>setRow_other w b k _ hk)
        (fun k=>by
          subst hv
          have:=zA4 (V:=V) (w:=w.setRow b (yB cur.toList (i * sz'+off) u.cells.toList).toArray) (Z:=Z1) (E:=E) (sz:=sz') (cap:=cap)
            (ds:=ds.set i (ds[i].withCells (yB ds[i].cells off d.cells))) (b:=b) hz (setRow_heap w b _ _ E _ hh) (by simpa using h4) h5
            (by simp only [List.size_toArray]; rw [xW (by simp; omega)]; simpa using h6) h0
            (fun e he=>by
              rcases List.mem_or_eq_of_mem_set he with h | h
              · exact hu e h
              · rw [h,hcells,xW (by omega)]; exact hes)
            (by
              simp only [List.length_set,htake]
              intro x hx
              simp only [yB,List.mem_append] at hx
              rcases hx with (hx | hx) | hx
              · exact h1c x (List.mem_of_mem_take hx)
              · exact hd1 x hx
              · exact h1c x (List.mem_of_mem_drop hx))
            (by
              simp only [List.length_set,htake,hflat]
              exact zHf hlf hdl (by rw [hlf]; omega) (fun j h h'=>(hrc j h h').keep k) (fun j h h'=>(hdr j h h').keep k))
          simpa using this)
      exact ⟨_,_,_,by simpa [Instr.storeAt,Instr.sureAddr] using hrun,m',x1.trans m.zlt x',hK⟩
    · exact h.elim
  · exact h.elim
theorem zGE {t:TypeId} {x y:A} {K:Heap→Prop} {v u:Value} (h:yU P t x y H K) (m:Mem V Z H w) (rx:RepA V w Z v x) (ry:RepA V w Z u y) :
    ∃ Z' H' w',(Instr.storeAt t v u).run P w=.ok () w'∧Mem V Z' H' w'∧Ext Z H w Z' H' w'∧K H':=by
  cases rx with
  | ref b off =>
    obtain ⟨H',w',r,m',x',k⟩:=zDr h m ry
    exact ⟨Z,H',w',r,m',x',k⟩
  | eref b v sz i off=>exact zCF h m ry
  | undef | d | nils | agg | tup | own | func | mp | yld | meth | imm=>simp [yU] at h
def yY (P:Program) (s:TypeId) (f:Nat):Option Nat :=
  match P.underlying s with
  | some (.struct fields)=>match fields[f]? with
    | some fd=>match P.info? fd.type with
      | some i=>if i.size=0 then none else some fd.offset
      | none=>none
    | none=>none
  | _=>none
def yV (P:Program) (s:TypeId) (x:A) (f:Nat) (K:A→Prop):Prop :=
  match yY P s f with
  | some o=>match x with
    | .ref b off=>K (.ref b (off+o))
    | .imm ds=>o≤ds.length∧K (.imm (ds.drop o))
    | .eref b v sz i off=>K (.eref b v sz i (off+o))
    | _=>False
  | none=>False
theorem zBL {s:TypeId} {f o:Nat} (h:yY P s f=some o) (b off:Nat) (w:World) :
    (Instr.fieldAt s (.pointer (some ⟨b,off,none⟩)) f).run P w=.ok (.pointer (some ⟨b,off+o,none⟩)) w:=by
  unfold yY at h
  split at h
  · rename_i fields hu
    split at h
    · rename_i fd hf
      split at h
      · rename_i i hi
        split at h
        · cases h
        · rename_i hne
          cases h
          simp [Instr.fieldAt,run_underlying hu,hf,Instr.sureAddr,fieldPlace,sizeOf,typeInfo,hi,hne,qF]
      · cases h
    · cases h
  · cases h
theorem zGB {s:TypeId} {x:A} {f:Nat} {K:A→Prop} {v:Value} (h:yV P s x f K) (r:RepA V w Z v x) :
    ∃ u y,(Instr.fieldAt s v f).run P w=.ok u w∧RepA V w Z u y∧K y:=by
  unfold yV at h
  split at h
  · rename_i o ho
    cases r with
    | ref b off=>exact ⟨_,_,zBL ho b off w,.ref ..,h⟩
    | imm b off cs cv hz hb hc h1 hr =>
      refine ⟨_,_,zBL ho b off w,.imm b (off+o) (cs.drop o) (fun j=>cv (o+j)) hz hb ?_ ?_ ?_,h.2⟩
      · intro j hj
        rw [Nat.add_assoc]
        exact hc (o+j) (by simp at hj; omega)
      · intro j hj; exact h1 _ (by simp at hj; omega)
      · intro j hj; simpa using hr (o+j) (by simp at hj; omega)
    | eref b v sz i off =>
      refine ⟨_,_,zBL ho b _ w, ?_,h⟩
      rw [Nat.add_assoc]
      exact .eref ..
    | undef | d | nils | agg | tup | own | func | mp | yld | meth=>simp at h
  · exact h.elim
def zB3 (P:Program) (t:TypeId) (x:A) (off:Nat) (K:A→Prop):Prop :=
  match x,yN P t with
  | .agg cs,some (true,n)=>off+n≤cs.length∧K (aggN ((cs.drop off).take n))
  | .agg cs,some (false,_)=>match cs[off]? with
    | some c=>K c
    | none=>False
  | .d (.agg cs),some (true,n)=>off+n≤cs.length∧K (.d (.agg ((cs.drop off).take n)))
  | .d (.agg cs),some (false,_)=>match cs[off]? with
    | some c=>K (zDu c)
    | none=>False
  | _,_=>False
def zX (P:Program) (s:TypeId) (x:A) (f:Nat) (K:A→Prop):Prop :=
  match P.underlying s with
  | some (.struct fields)=>match fields[f]? with
    | some fd=>zB3 P fd.type x fd.offset K
    | none=>False
  | _=>False
theorem zDV {t:TypeId} {x:A} {off:Nat} {K:A→Prop} {cv:List Value} (h:zB3 P t x off K) (r:RepA V w Z (.agg cv.toArray) x) :
    ∃ u y,(part t cv.toArray off).run P w=.ok u w∧RepA V w Z u y∧K y:=by
  generalize hv:Value.agg cv.toArray=v at r
  cases r with
  | agg cv' cs hl h1 hr =>
    have:cv'=cv:=by simpa using hv.symm
    subst this
    unfold zB3 at h
    split at h <;> first | (rename_i e _; cases e; done) | skip
    · rename_i cs' n hc hs
      cases hc
      obtain ⟨hle,hK⟩:=h
      obtain ⟨e1,e2⟩:=uA hs w
      refine ⟨.agg ((cv'.drop off).take n).toArray,_, ?_,zCm (.agg _ _ (by simp; omega) ?_ ?_),hK⟩
      · simp [part,e1,e2]
      · intro u hu; exact h1 u (List.mem_of_mem_drop (List.mem_of_mem_take hu))
      · intro j hj hj'; simp only [List.length_take,List.length_drop] at hj hj'; simpa using hr (off+j) (by omega) (by omega)
    · rename_i cs' n hc hs
      cases hc
      split at h
      · rename_i c hc
        obtain ⟨hlt,rfl⟩:=List.getElem?_eq_some_iff.1 hc
        obtain ⟨e1,e2⟩:=uA hs w
        exact ⟨cv'[off],_,by simp [part,e1,show off < cv'.length by omega],hr off (by omega) hlt,h⟩
      · exact h.elim
    all_goals first | exact h.elim | (simp at *)
  | d v x hd =>
    cases hd with
    | agg cv' cs hl h1 hr =>
      have:cv'=cv:=by simpa using hv.symm
      subst this
      unfold zB3 at h
      split at h <;> first | (rename_i e _; cases e; done) | skip
      · rename_i cs' n hc hs
        cases hc
        obtain ⟨hle,hK⟩:=h
        obtain ⟨e1,e2⟩:=uA hs w
        refine ⟨.agg ((cv'.drop off).take n).toArray,_, ?_,.d _ _ (.agg _ _ (by simp; omega) ?_ ?_),hK⟩
        · simp [part,e1,e2]
        · intro u hu; exact h1 u (List.mem_of_mem_drop (List.mem_of_mem_take hu))
        · intro j hj hj'; simp only [List.length_take,List.length_drop] at hj hj'; simpa using hr (off+j) (by omega) (by omega)
      · rename_i cs' n hc hs
        cases hc
        split at h
        · rename_i c hc
          obtain ⟨hlt,rfl⟩:=List.getElem?_eq_some_iff.1 hc
          obtain ⟨e1,e2⟩:=uA hs w
          exact ⟨cv'[off],_,by simp [part,e1,show off < cv'.length by omega],zEB (hr off (by omega) hlt),h⟩
        · exact h.elim
      all_goals first | exact h.elim | (simp at *)
    | raw v h1=>subst hv; simp [Value.oneCell'] at h1
    | sent=>cases hv
    | _=>cases hv
  | undef=>simp [zB3] at h
  | own b v hb=>subst hv; simp [Value.ownBlock] at hb
  | _=>cases hv
end
end Go.Aug

/-
  The abstract layer, part G: elements' places, cuts, lengths, what makes new memory.
-/
namespace Go.Aug
section
variable {P:Program} {V:Env} {Z:Nat→Prop} {H:Heap} {w:World}
def intA:A→(Int→Prop)→Prop
  | .d (.int _ n),K=>K n
  | _,_=>False
theorem qH {x:A} {K:Int→Prop} {v:Value} (h:intA x K) (r:RepA V w Z v x):∃ k n,v=.int k n∧K n:=by
  unfold intA at h
  split at h
  · cases r with | d _ _ r=>cases r; exact ⟨_,_,rfl,h⟩
  · exact h.elim
def zI (P:Program) (t:TypeId) (x i:A) (H:Heap) (K:A→Prop):Prop :=
  match P.underlying t with
  | some (.slice e)=>match yN P e with
    | some (_,sz)=>intA i fun n=>0≤n∧match x with
      | .d (.slice es)=>match es[n.toNat]? with
        | some d=>d.cells.length=sz∧K (.imm d.cells)
        | none=>False
      | .own b v=>match H b with
        | some (.arr _ sz' v' ds)=>v'=v∧sz'=sz∧n.toNat < ds.length∧K (.eref b v sz n.toNat 0)
        | some (.frz v' es)=>v'=v∧match es[n.toNat]? with
          | some d=>d.cells.length=sz∧K (.imm d.cells)
          | none=>False
        | _=>False
      | _=>False
    | none=>False
  | _=>False
theorem zBN {t e:TypeId} {g:Bool} {sz b o len cap:Nat} {k:IntKind} {n:Int} (hu:P.underlying t=some (.slice e)) (hs:yN P e=some (g,sz)) (h0:0≤n) (hn:n.toNat < len) (w:World) :
    (Instr.indexAt t (.slice (some ⟨b,o,none⟩) len cap) (.int k n)).run P w=.ok (.pointer (some ⟨b,o+n.toNat * sz,none⟩)) w:=by
  obtain ⟨_,h2⟩:=uA hs w
  simp [Instr.indexAt,run_underlying hu,asIntOf,h2,h0,show n < (len:Int) by omega,qF]
theorem zGI {es:List D} {v:Value} (r:RepD V w Z v (.slice es)) {n:Nat} {d:D} (hd:es[n]?=some d) :
    ∃ b o cap,v=.slice (some ⟨b,o,none⟩) es.length cap∧n < es.length∧RepA V w Z (.pointer (some ⟨b,o+n * d.cells.length,none⟩)) (.imm d.cells):=by
  cases r with
  | empty=>simp at hd
  | slice b o cap _ sz cv hk hz hb hs hc h1 hr =>
    obtain ⟨hi,rfl⟩:=List.getElem?_eq_some_iff.1 hd
    have he:=hs _ (List.getElem_mem hi)
    have hfl:=xJ hs
    have key:∀ j,j < es[n].cells.length→n * sz+j < (flat es).length∧(flat es)[n * sz+j]?=es[n].cells[j]?:=by
      intro j hj
      refine ⟨?_,jB hs n j hi (by omega)⟩
      rw [hfl]
      calc n * sz+j < n * sz+sz:=by omega
        _=(n+1) * sz:=by rw [Nat.add_mul]; omega
        _≤_:=Nat.mul_le_mul_right _ hi
    refine ⟨b,o,cap,rfl,hi,.imm b _ _ (fun j=>cv (n * sz+j)) hz hb ?_ ?_ ?_⟩
    · intro j hj
      rw [he,Nat.add_assoc]
      exact hc _ (key j hj).1
    · intro j hj; exact h1 _ (key j hj).1
    · intro j hj
      obtain ⟨a,c⟩:=key j hj
      rw [List.getElem?_eq_getElem a,List.getElem?_eq_getElem hj,Option.some.injEq] at c
      rw [←c]; exact hr _ a
theorem zCE {t:TypeId} {x i:A} {K:A→Prop} {v u:Value} (h:zI P t x i H K) (m:Mem V Z H w) (rx:RepA V w Z v x) (ri:RepA V w Z u i) :
    ∃ a y,(Instr.indexAt t v u).run P w=.ok a w∧RepA V w Z a y∧K y:=by
  unfold zI at h
  split at h
  · rename_i e hu
    split at h
    · rename_i g sz hs
      obtain ⟨k,n,rfl,h0,h1⟩:=qH h ri
      clear h
      cases rx with
      | d v x rd =>
        cases x with
        | slice es =>
          simp only at h1
          split at h1
          · rename_i d hd
            obtain ⟨hl,hK⟩:=h1
            obtain ⟨b,o,cap,rfl,hlt,hrep⟩:=zGI rd hd
            rw [hl] at hrep
            exact ⟨_,_,zBN hu hs h0 hlt w,hrep,hK⟩
          · exact h1.elim
        | int | bool | str | agg | sent | raw=>exact h1.elim
      | own b v hb =>
        simp only at h1
        split at h1
        · rename_i E sz' v'' ds hH
          obtain ⟨rfl,rfl,hlt,hK⟩:=h1
          obtain ⟨cap,cur,hv,hh,_⟩:=zB6 (m.heap b _ hH)
          refine ⟨_,_, ?_,.eref b v'' sz' n.toNat 0,hK⟩
          rw [hv,zBN hu hs h0 hlt w]
          simp
        · rename_i v'' es hH
          obtain ⟨rfl,h1⟩:=h1
          split at h1
          · rename_i d hd
            obtain ⟨hl,hK⟩:=h1
            have rd:RepD V w Z v'' (.slice es):=(m.heap b _ hH).1
            obtain ⟨b',o,cap,rfl,hlt,hrep⟩:=zGI rd hd
            rw [hl] at hrep
            exact ⟨_,_,zBN hu hs h0 hlt w,hrep,hK⟩
          · exact h1.elim
        · exact h1.elim
      | undef | nils | agg | tup | ref | imm | eref | func | mp | yld | meth=>exact h1.elim
    · exact h.elim
  · exact h.elim
def yG (P:Program) (t:TypeId) (x i:A) (K:A→Prop):Prop :=
  match P.underlying t,x with
  | some .string,.d (.str s)=>intA i fun n=>0≤n∧match s[n.toNat]? with
    | some b=>K (.d (.int .u8 b.toNat))
    | none=>False
  | _,_=>False
theorem zFQ {t:TypeId} {x i:A} {K:A→Prop} {v u:Value} (h:yG P t x i K) (rx:RepA V w Z v x) (ri:RepA V w Z u i) :
    ∃ a y,(Instr.index t v u).run P w=.ok a w∧RepA V w Z a y∧K y:=by
  unfold yG at h
  split at h
  · rename_i s hu
    obtain ⟨k,n,rfl,h0,h⟩:=qH h ri
    cases rx with
    | d _ _ rd =>
      cases rd
      split at h
      · rename_i b hb
        exact ⟨.int .u8 b.toNat,_,by simp [Instr.index,run_underlying hu,asIntOf,h0,hb],.d _ _ (.int ..),h⟩
      · exact h.elim
  · exact h.elim
def zB2 (P:Program) (t:TypeId) (b off:Nat) (i:A) (K:A→Prop):Prop :=
  match P.underlying t with
  | some (.array len e)=>match yN P e with
    | some (_,sz)=>intA i fun n=>0≤n∧n.toNat < len∧K (.ref b (off+n.toNat * sz))
    | none=>False
  | _=>False
def zL (P:Program) (t:TypeId) (x i:A) (H:Heap) (K:A→Prop):Prop:=match x with
  | .ref b off=>zB2 P t b off i K
  | x=>zI P t x i H K
theorem zDo {t:TypeId} {x i:A} {K:A→Prop} {v u:Value} (h:zL P t x i H K) (m:Mem V Z H w) (rx:RepA V w Z v x) (ri:RepA V w Z u i) :
    ∃ a y,(Instr.indexAt t v u).run P w=.ok a w∧RepA V w Z a y∧K y:=by
  unfold zL at h
  split at h
  · rename_i b off
    unfold zB2 at h
    split at h
    · rename_i len e hu
      split at h
      · rename_i g sz hs
        obtain ⟨k,n,rfl,h0,h1,hK⟩:=qH h ri
        obtain ⟨_,h2⟩:=uA hs w
        cases rx
        refine ⟨_,_, ?_,.ref b (off+n.toNat * sz),hK⟩
        simp [Instr.indexAt,run_underlying hu,asIntOf,Instr.sureAddr,h2,h0,show n < (len:Int) by omega,qF]
      · exact h.elim
    · exact h.elim
  · exact zCE h m rx ri
def zDR (P:Program) (t:TypeId) (x i:A) (K:A→Prop):Prop :=
  match P.underlying t with
  | some (.array len e)=>match yN P e with
    | some (_,sz)=>intA i fun n=>0≤n∧n.toNat < len∧zB3 P e x (n.toNat * sz) K
    | none=>False
  | _=>False
def yW (P:Program) (t:TypeId) (x i:A) (K:A→Prop):Prop:=match x with
  | .d (.str s)=>yG P t (.d (.str s)) i K
  | x=>zDR P t x i K
theorem zGC {t:TypeId} {x i:A} {K:A→Prop} {v u:Value} (h:yW P t x i K) (rx:RepA V w Z v x) (ri:RepA V w Z u i) :
    ∃ a y,(Instr.index t v u).run P w=.ok a w∧RepA V w Z a y∧K y:=by
  unfold yW at h
  split at h
  · exact zFQ h rx ri
  · unfold zDR at h
    split at h
    · rename_i len e hu
      split at h
      · rename_i g sz hs
        obtain ⟨k,n,rfl,h0,h1,hp⟩:=qH h ri
        obtain ⟨_,h2⟩:=uA hs w
        have key:∀ cv:List Value,v=.agg cv.toArray→∃ a y,(Instr.index t v (.int k n)).run P w=.ok a w∧RepA V w Z a y∧K y:=by
          rintro cv rfl
          obtain ⟨a,y,hr,ry,hy⟩:=zDV hp rx
          refine ⟨a,y, ?_,ry,hy⟩
          simp [Instr.index,run_underlying hu,asIntOf,h2,h0,show n < (len:Int) by omega,hr]
        cases rx with
        | agg cv cs hl h1 hr=>exact key cv rfl
        | d v x rd =>
          cases rd with
          | agg cv cs hl h1 hr=>exact key cv rfl
          | _=>simp [zB3] at hp
        | _=>simp [zB3] at hp
      · exact h.elim
    · exact h.elim
def aLen (x:A) (H:Heap) (K:A→Prop):Prop :=
  match x with
  | .d (.str s)=>K (.d (.int .i64 s.size))
  | .d (.slice es)=>K (.d (.int .i64 es.length))
  | .nils=>K (.d (.int .i64 0))
  | .own b v=>match H b with
    | some (.arr _ _ v' ds)=>v'=v∧K (.d (.int .i64 ds.length))
    | some (.frz v' ds)=>v'=v∧K (.d (.int .i64 ds.length))
    | _=>False
  | .mp b=>match H b with
    | some (.map _ m)=>K (.d (.int .i64 m.length))
    | _=>False
  | _=>False
def lenable (P:Program) (t:TypeId) (x:A):Bool :=
  match P.underlying t,x with
  | some .string,.d (.str _)=>true
  | some (.slice _),.d (.slice _)=>true
  | some (.slice _),.nils=>true
  | some (.slice _),.own .. => true
  | some (.map ..),.mp _=>true
  | _,_=>false
theorem zIC {es:List D} {v:Value} (r:RepD V w Z v (.slice es)):∃ b cap,v=.slice b es.length cap:=by
  cases r with
  | empty=>exact ⟨_,_,rfl⟩
  | slice=>exact ⟨_,_,rfl⟩
theorem zJs {t ty:TypeId} {x:A} {K:A→Prop} {v:Value} (h:aLen x H K) (hx:lenable P t x=true) (m:Mem V Z H w) (r:RepA V w Z v x) :
    ∃ u y,(Builtin.len_ #[t] ty #[v]).run P w=.ok u w∧RepA V w Z u y∧K y:=by
  unfold lenable at hx
  split at hx
  · rename_i s hu
    cases r with
    | d _ _ rd=>cases rd; exact ⟨_,_,by simp [Builtin.len_,run_underlying hu]; rfl,.d _ _ (.int ..),h⟩
  · rename_i e es hu
    cases r with
    | d _ _ rd=>obtain ⟨b,cap,rfl⟩:=zIC rd; exact ⟨_,_,by simp [Builtin.len_,run_underlying hu]; rfl,.d _ _ (.int ..),h⟩
  · rename_i e hu
    cases r; exact ⟨_,_,by simp [Builtin.len_,run_underlying hu]; rfl,.d _ _ (.int ..),h⟩
  · rename_i e b v' hu
    cases r with
    | own _ _ hb =>
      simp only [aLen] at h
      split at h
      · rename_i E sz v'' ds hH
        obtain ⟨rfl,hK⟩:=h
        obtain ⟨cap,cur,hv,_⟩:=zB6 (m.heap b _ hH)
        exact ⟨_,_,by rw [hv]; simp [Builtin.len_,run_underlying hu]; rfl,.d _ _ (.int ..),hK⟩
      · rename_i v'' ds hH
        obtain ⟨rfl,hK⟩:=h
        have rd:RepD V w Z v'' (.slice ds):=(m.heap b _ hH).1
        obtain ⟨b',cap,rfl⟩:=zIC rd
        exact ⟨_,_,by simp [Builtin.len_,run_underlying hu]; rfl,.d _ _ (.int ..),hK⟩
      · exact h.elim
  · rename_i k e b hu
    cases r
    simp only [aLen] at h
    split at h
    · rename_i s l hH
      obtain ⟨_,_,es,clock,hh,hl,_⟩:=m.heap b _ hH
      have hget:(getObj b).run P w=.ok (.map es clock) w:=by simp [getObj,Sem.run,hh]
      exact ⟨_,_,by simp [Builtin.len_,run_underlying hu,hget]; rfl,.d _ _ (.int ..),by rw [hl]; exact h⟩
    · exact h.elim
  · cases hx
def qV (lo hi:Option A) (n:Nat) (K:Nat→Nat→Prop):Prop :=
  match hi with
  | none=>match lo with
    | none=>K 0 n
    | some a=>intA a fun l=>0≤l∧l.toNat≤n∧K l.toNat n
  | some c=>intA c fun h=>0≤h∧h.toNat≤n∧match lo with
    | none=>K 0 h.toNat
    | some a=>intA a fun l=>0≤l∧l.toNat≤h.toNat∧K l.toNat h.toNat
theorem kC {lo hi:Option A} {vlo vhi:Option Value} {n cap:Nat} {K:Nat→Nat→Prop} (h:qV lo hi n K) (hcap:n≤cap) (isS:Bool)
    (rlo:∀ a,lo=some a→∃ v,vlo=some v∧RepA V w Z v a) (rlo':lo=none→vlo=none) (rhi:∀ a,hi=some a→∃ v,vhi=some v∧RepA V w Z v a) (rhi':hi=none→vhi=none) :
    ∃ l m,(Instr.sliceBounds isS n cap vlo vhi none).run P w=.ok (l,m,cap) w∧l≤m∧m≤n∧K l m∧(lo=none→l=0):=by
  have sb:∀ (k:IntKind) (i:Int) (y:Nat) (c:BoundsCode),0≤i→i.toNat≤y→(Instr.sliceBound (.int k i) y c).run P w=.ok i.toNat w:=by
    intro k i y c h0 h1
    simp [Instr.sliceBound,asIntOf,h0,show i≤(y:Int) by omega]
  unfold qV at h
  split at h
  · rw [rhi' rfl]
    split at h
    · rw [rlo' rfl]
      exact ⟨0,n,by simp [Instr.sliceBounds],Nat.zero_le _,Nat.le_refl _,h,fun _=>rfl⟩
    · rename_i a
      obtain ⟨v,rfl,ra⟩:=rlo a rfl
      obtain ⟨k,l,rfl,h0,h1,hK⟩:=qH h ra
      exact ⟨l.toNat,n,by simp [Instr.sliceBounds,sb k l n _ h0 h1],h1,Nat.le_refl _,hK,fun e=>by cases e⟩
  · rename_i c
    obtain ⟨v,rfl,rc⟩:=rhi c rfl
    obtain ⟨k,i,rfl,h0,h1,h4⟩:=qH h rc
    clear h
    split at h4
    · rw [rlo' rfl]
      exact ⟨0,i.toNat,by simp [Instr.sliceBounds,sb k i cap _ h0 (by omega)],Nat.zero_le _,h1,h4,fun _=>rfl⟩
    · rename_i a
      obtain ⟨v,rfl,ra⟩:=rlo a rfl
      obtain ⟨k',l,rfl,h2,h3,hK⟩:=qH h4 ra
      exact ⟨l.toNat,i.toNat,by simp [Instr.sliceBounds,sb k i cap _ h0 (by omega),sb k' l i.toNat _ h2 h3],h3,h1,hK,fun e=>by cases e⟩
def xC (P:Program) (t:TypeId) (x:A) (lo hi:Option A) (H:Heap) (K:A→Heap→Prop):Prop :=
  match P.underlying t,x with
  | some .string,.d (.str s)=>qV lo hi s.size fun l m=>K (.d (.str (s.extract l m))) H
  | some (.slice e),.nils=>(yN P e).isSome=true∧qV lo hi 0 fun _ _=>K .nils H
  | some (.slice e),.d (.slice es)=>match yN P e with
    | some (_,sz)=>(∀ d ∈ es,d.cells.length=sz)∧qV lo hi es.length fun l m=>K (.d (.slice ((es.take m).drop l))) H
    | none=>False
  | some (.slice e),.own b v=>match H b,yN P e with
    | some (.arr E sz v' ds),some (_,sz')=>v'=v∧sz'=sz∧match lo with
      | none=>qV none hi ds.length fun _ m=>∀ v2:Value,v2.ownBlock=some b→K (.own b v2) (upd H b (.arr E sz v2 (ds.take m)))
      | some _=>qV lo hi ds.length fun l m=>K (.d (.slice ((ds.take m).drop l))) (upd H b (.frz v ds))
    | some (.frz v' ds),some (_,sz)=>v'=v∧(∀ d ∈ ds,d.cells.length=sz)∧qV lo hi ds.length fun l m=>K (.d (.slice ((ds.take m).drop l))) H
    | _,_=>False
  | _,_=>False
theorem zFS {es:List D} {v:Value} {t e:TypeId} {g:Bool} {sz:Nat} (hu:P.underlying t=some (.slice e)) (hs:yN P e=some (g,sz)) (hd:∀ d ∈ es,d.cells.length=sz) (r:RepD V w Z v (.slice es)) {lo hi:Option A} {vlo vhi:Option Value} {K:Nat→Nat→Prop} (h:qV lo hi es.length K)
    (rlo:∀ a,lo=some a→∃ v,vlo=some v∧RepA V w Z v a) (rlo':lo=none→vlo=none) (rhi:∀ a,hi=some a→∃ v,vhi=some v∧RepA V w Z v a) (rhi':hi=none→vhi=none) :
    ∃ l m u,(Instr.slice t v vlo vhi none).run P w=.ok u w∧RepD V w Z u (.slice ((es.take m).drop l))∧K l m:=by
  obtain ⟨_,h2⟩:=uA hs w
  cases r with
  | empty a cap =>
    obtain ⟨l,m,hr,hl,hm,hK,_⟩:=kC (P:=P) (cap:=cap) h (Nat.zero_le _) true rlo rlo' rhi rhi'
    have hm0:m=0:=by simpa using hm
    have hl0:l=0:=by omega
    subst hm0 hl0
    refine ⟨0,0,.slice (if cap=0 then a else a.map (·.add 0)) 0 cap, ?_,.empty ..,hK⟩
    simp only [List.length_nil] at hr
    simp [Instr.slice,run_underlying hu,hr,h2]
  | slice b o cap _ sz' cv hk hz hb hsz hc h1 hr =>
    obtain ⟨l,m,hrun,hl,hm,hK,_⟩:=kC (P:=P) (cap:=cap) h hk true rlo rlo' rhi rhi'
    refine ⟨l,m,.slice (if cap=l then some ⟨b,o,none⟩ else some ⟨b,o+l * sz,none⟩) (m - l) (cap - l), ?_, ?_,hK⟩
    · simp [Instr.slice,run_underlying hu,hrun,h2,qF]
    · by_cases e0 : l = m
      · have : (es.take m).drop l = [] := by simp; omega
        rw [this,e0,Nat.sub_self]
        exact .empty ..
      · have hcl : l < cap := by omega
        rw [if_neg (by omega)]
        have hlen:((es.take m).drop l).length=m - l:=by simp; omega
        rw [←hlen]
        refine .slice b _ _ _ sz (fun j=>cv (l * sz+j)) (by omega) hz hb (fun e he=>hd e (List.mem_of_mem_take (List.mem_of_mem_drop he))) ?_ ?_ ?_
        · intro j hj
          rw [Nat.add_assoc]
          exact hc _ (kA hd l m hm j hj).1
        · intro j hj; exact h1 _ (kA hd l m hm j hj).1
        · intro j hj
          obtain ⟨x1,x2⟩:=kA hd l m hm j hj
          rw [List.getElem?_eq_getElem hj,List.getElem?_eq_getElem x1,Option.some.injEq] at x2
          rw [x2]; exact hr _ x1
theorem zGD {t:TypeId} {x:A} {lo hi:Option A} {K:A→Heap→Prop} {v:Value} {vlo vhi:Option Value} (h:xC P t x lo hi H K) (m:Mem V Z H w) (rx:RepA V w Z v x)
    (rlo:∀ a,lo=some a→∃ v,vlo=some v∧RepA V w Z v a) (rlo':lo=none→vlo=none) (rhi:∀ a,hi=some a→∃ v,vhi=some v∧RepA V w Z v a) (rhi':hi=none→vhi=none) :
    ∃ u y Z' H',(Instr.sliceAt t v vlo vhi none).run P w=.ok u w∧RepA V w Z' u y∧Mem V Z' H' w∧Ext Z H w Z' H' w∧K y H':=by
  unfold xC at h
  split at h
  · rename_i s hu
    cases rx with
    | d _ _ rd =>
      cases rd
      obtain ⟨l,mm,hr,hl,hm,hK,_⟩:=kC (P:=P) h (Nat.le_refl _) false rlo rlo' rhi rhi'
      exact ⟨.string (s.extract l mm),_,Z,H,by simp [Instr.sliceAt,Instr.slice,run_underlying hu,hr],.d _ _ (.str ..),m,.refl ..,hK⟩
  · rename_i e hu
    obtain ⟨hs,h⟩:=h
    cases rx
    obtain ⟨l,mm,hr,hl,hm,hK,_⟩:=kC (P:=P) (cap:=0) h (Nat.le_refl _) true rlo rlo' rhi rhi'
    obtain rfl:mm=0:=by omega
    obtain rfl:l=0:=by omega
    obtain ⟨⟨g,sz⟩,hs⟩:=Option.isSome_iff_exists.1 hs
    obtain ⟨_,h2⟩:=uA hs w
    exact ⟨.slice none 0 0,_,Z,H,by simp [Instr.sliceAt,Instr.slice,run_underlying hu,hr,h2],.nils,m,.refl ..,hK⟩
  · rename_i e es hu
    split at h
    · rename_i g sz hs
      obtain ⟨hd,h⟩:=h
      cases rx with
      | d _ _ rd =>
        obtain ⟨l,mm,u,hr,hrep,hK⟩:=zFS hu hs hd rd h rlo rlo' rhi rhi'
        exact ⟨u,_,Z,H,by simpa [Instr.sliceAt,run_underlying hu] using hr,.d _ _ hrep,m,.refl ..,hK⟩
    · exact h.elim
  · rename_i e b v' hu
    cases rx with
    | own _ _ hb =>
    split at h
    · rename_i E sz v'' ds g sz' hH hs
      obtain ⟨rfl,rfl,h⟩:=h
      obtain ⟨_,hsz⟩:=uA hs w
      have hobj:=m.heap b _ hH
      split at h
      · obtain ⟨cap, cur, hv, hh, h4, h5, h6, h0, hu', hlf, h1c, hrc⟩ := zAs hobj
        obtain rfl:=rlo' rfl
        obtain ⟨l,mm,hr,hl,hm,hK,hl0⟩:=kC (P:=P) (cap:=cap) (lo:=none) (vlo:=none) h h4 true (fun a h=>by cases h) (fun _=>rfl) rhi rhi'
        obtain rfl:=hl0 rfl
        have hz:=m.own b ⟨_,hH,rfl⟩
        have htl:(ds.take mm).length=mm:=by simp; omega
        have hlen:mm * sz'≤ds.length * sz':=Nat.mul_le_mul_right _ hm
        have hut:∀ d ∈ ds.take mm,(D.cells d).length=sz':=fun d hd=>hu' d (List.mem_of_mem_take hd)
        have hflt:=xJ hut
        have hfl:=xJ hu'
        have hnew:=zA4 (V:=V) (w:=w) (Z:=Z) (E:=E) (sz:=sz') (cap:=cap) (ds:=ds.take mm) (b:=b) hz hh (by omega) h5 h6 h0 hut
          (by
            rw [htl]
            intro x hx
            refine h1c x ?_
            have:cur.toList.take (mm * sz')=(cur.toList.take (ds.length * sz')).take (mm * sz'):=by rw [List.take_take,Nat.min_eq_left hlen]
            rw [this] at hx
            exact List.mem_of_mem_take hx)
          (by
            rw [htl]
            intro j hj hj'
            have hlc:(cur.toList.take (ds.length * sz')).length=ds.length * sz':=by rw [hlf,hfl]
            have hjm:j < mm * sz':=by rw [hflt,htl] at hj'; exact hj'
            have e1:(cur.toList.take (mm * sz'))[j]=(cur.toList.take (ds.length * sz'))[j]'(by omega):=by simp
            have e2:(flat (ds.take mm))[j]=(flat ds)[j]'(by omega):=by
              have:=(kA hu' 0 mm hm j (by simpa using hj')).2
              simp only [List.drop_zero,Nat.zero_mul,Nat.zero_add] at this
              rw [List.getElem?_eq_getElem hj',List.getElem?_eq_getElem (by omega),Option.some.injEq] at this
              exact this
            rw [e1,e2]
            exact hrc j (by omega) (by omega))
        rw [htl] at hnew
        obtain ⟨m',x',k⟩:=m.set (o':=.arr E sz' (.slice (some ⟨b,0,none⟩) mm cap) (ds.take mm)) hH rfl (w':=w) rfl rfl rfl rfl (fun _ _=>rfl) (fun _=>hnew)
        refine ⟨.slice (some ⟨b,0,none⟩) mm cap,_,Z,_, ?_,.own b _ rfl,m',x',hK _ rfl⟩
        rw [hv]
        simp [Instr.sliceAt,Instr.slice,run_underlying hu,hr,hsz,qF]
      · obtain ⟨m', x', rd⟩ := m.freeze hH
        have hd:∀ d ∈ ds,d.cells.length=sz':=hobj.2.2.1
        have k:=m.keeps x'
        obtain ⟨l,mm,u,hr,hrep,hK⟩:=zFS hu hs hd rd h (fun a ha=>let ⟨v,e,r⟩:=rlo a ha; ⟨v,e,r.keep k⟩) rlo' (fun a ha=>let ⟨v,e,r⟩:=rhi a ha; ⟨v,e,r.keep k⟩) rhi'
        exact ⟨u,_,_,_,by simpa [Instr.sliceAt,run_underlying hu] using hr,.d _ _ hrep,m',x',hK⟩
    · rename_i v'' ds g sz hH hs
      obtain ⟨rfl,hd,h⟩:=h
      have rd:RepD V w Z v'' (.slice ds):=(m.heap b _ hH).1
      obtain ⟨l,mm,u,hr,hrep,hK⟩:=zFS hu hs hd rd h rlo rlo' rhi rhi'
      exact ⟨u,_,Z,H,by simpa [Instr.sliceAt,run_underlying hu] using hr,.d _ _ hrep,m,.refl ..,hK⟩
    · exact h.elim
  · exact h.elim
end
end Go.Aug

/-
  The abstract layer, part H: append, literals, new variables.
-/
namespace Go.Aug
section
variable {P:Program} {V:Env} {Z:Nat→Prop} {H:Heap} {w:World}
def srcK (H:Heap) (x:A) (K:List D→Prop):Prop :=
  match x with
  | .d (.slice es)=>K es
  | .nils=>K []
  | .own b v=>match H b with
    | some (.arr _ _ v' ds)=>v'=v∧K ds
    | some (.frz v' ds)=>v'=v∧K ds
    | _=>False
  | _=>False
def zSr (V:Env) (w:World) (Z:Nat→Prop) (v:Value) (es:List D):Prop :=
  ∃ base c,v=.slice base es.length c∧(es=[]∨∃ (a:Addr) (news:List Value),base=some a∧news.length=(flat es).length∧(∀ j u,news[j]?=some u→w.cell? (a.add j)=some u) ∧
    (∀ u ∈ news,u.oneCell'=true)∧∀ j (h:j < news.length) (h':j < (flat es).length),RepD V w Z news[j] (flat es)[j])
theorem zJf {es:List D} {v:Value} (r:RepD V w Z v (.slice es)):zSr V w Z v es:=by
  cases r with
  | empty a cap=>exact ⟨_,_,rfl,.inl rfl⟩
  | slice b o cap _ sz cv hk hz hb hs hc h1 hr =>
    refine ⟨_,_,rfl,.inr ⟨_,(List.range (flat es).length).map cv,rfl,by simp, ?_, ?_, ?_⟩⟩
    · intro j u hu
      obtain ⟨hj,e⟩:=List.getElem?_eq_some_iff.1 hu
      simp at hj e
      rw [qF,hc j hj,e]
    · intro u hu; simp at hu; obtain ⟨j,hj,rfl⟩:=hu; exact h1 j hj
    · intro j h h'; simpa using hr j h'
theorem zFK {x:A} {K:List D→Prop} {v:Value} (h:srcK H x K) (m:Mem V Z H w) (r:RepA V w Z v x):∃ es,zSr V w Z v es∧K es:=by
  unfold srcK at h
  split at h
  · cases r with | d _ _ rd=>exact ⟨_,zJf rd,h⟩
  · cases r; exact ⟨[],⟨_,_,rfl,.inl rfl⟩,h⟩
  · rename_i b v'
    cases r with
    | own _ _ hb =>
    split at h
    · rename_i E sz v'' ds hH
      obtain ⟨rfl,hK⟩:=h
      obtain ⟨cap,cur,hv,hh,h4,h5,h6,h0,hu,hlf,h1c,hrc⟩:=zAs (m.heap b _ hH)
      refine ⟨ds,⟨_,_,hv,.inr ⟨_,_,rfl,hlf, ?_,h1c,hrc⟩⟩,hK⟩
      intro j u hu'
      rw [qF]
      obtain ⟨hj,e⟩:=List.getElem?_eq_some_iff.1 hu'
      simp only [List.length_take,Array.length_toList] at hj
      simp only [List.getElem_take,Array.getElem_toList] at e
      simp [World.cell?,hh,←e,show j < cur.size by omega]
    · rename_i v'' ds hH
      obtain ⟨rfl,hK⟩:=h
      exact ⟨ds,zJf (m.heap b _ hH).1,hK⟩
    · exact h.elim
  · exact h.elim
def zRh:Value→Bool
  | .slice (some _) n c=>Nat.beq n c
  | _=>false
def yF (P:Program) (t:TypeId) (dst src:A) (H:Heap) (K:A→Heap→Prop):Prop :=
  match P.underlying t with
  | some (.slice e)=>match P.info? e with
    | some i=>match i.zero with
      | some z=>z.cells.size=i.size∧0 < i.size∧0 < i.bytes∧srcK H src fun ns=>(∀ d ∈ ns,d.cells.length=i.size) ∧
        match dst with
        | .nils=>ns.length * i.bytes≤140737488355328∧(ns=[]→K .nils H)∧(ns≠[]→newV H fun b v=>K (.own b v) (upd H b (.arr e i.size v ns)))
        | .own b v=>match H b with
          | some (.arr E sz v' ds)=>v'=v∧E=e∧sz=i.size∧(ds.length+ns.length) * i.bytes≤140737488355328 ∧
            wP H b fun b' v'=>K (.own b' v') (upd (del H b) b' (.arr e sz v' (ds++ns)))
          | some (.frz v' ds)=>v'=v∧zRh v=true∧ns≠[]∧ds≠[]∧(∀ d ∈ ds,d.cells.length=i.size)∧(ds.length+ns.length) * i.bytes≤140737488355328 ∧
            newV H fun b' v'=>K (.own b' v') (upd H b' (.arr e i.size v' (ds++ns)))
          | _=>False
        | .d (.slice es)=>ns=[]∧K (.d (.slice es)) H
        | _=>False
      | none=>False
    | none=>False
  | _=>False
theorem qS {n b:Nat} (h:n * b≤140737488355328) (hb:0 < b):n≤maxLen∧n≤140737488355328:=by
  have:n≤n * b:=Nat.le_mul_of_pos_right n hb
  have h2:n≤140737488355328:=Nat.le_trans this h
  exact ⟨by simp only [maxLen]; omega,h2⟩
theorem zAL (a b:List D):flat (a++b)=flat a++flat b:=by simp [flat]
theorem jJ (t ty e:TypeId) (i:TypeInfo) (hu:P.underlying t=some (.slice e)) (hi:P.info? e=some i) (b b':Option Addr) (n c c':Nat) (hn:n≤c) :
    (Builtin.append_ #[t,t] ty #[.slice b n c,.slice b' 0 c']).run P w=.ok (.slice b n c) w:=by
  have hf:(Builtin.firstCells i.size 0 (.slice b' 0 c')).run P w=.ok #[] w:=by
    cases b' with
    | none=>simp [Builtin.firstCells]
    | some a=>simp [Builtin.firstCells,loadCells,loadCellsFrom]
  cases b with
  | none=>simp [Builtin.append_,run_underlying hu,sizeOf,typeInfo,hi,Builtin.lenOf,hn,hf]
  | some a=>simp [Builtin.append_,run_underlying hu,sizeOf,typeInfo,hi,Builtin.lenOf,hn,hf,storeCells]
theorem zFP {t ty:TypeId} {dst src:A} {K:A→Heap→Prop} {v u:Value} (h:yF P t dst src H K) (m:Mem V Z H w) (rd:RepA V w Z v dst) (rs:RepA V w Z u src) :
    ∃ r y Z' H' w',(Builtin.append_ #[t,t] ty #[v,u]).run P w=.ok r w'∧RepA V w' Z' r y∧Mem V Z' H' w'∧Ext Z H w Z' H' w'∧K y H':=by
  unfold yF at h
  split at h
  · rename_i e hu
    split at h
    · rename_i i hi
      split at h
      · rename_i z hz
        obtain ⟨hzs,hsz,hby,h⟩:=h
        obtain ⟨ns,⟨base,c,rfl,hsrc⟩,hun,h2⟩:=zFK h m rs
        clear h
        have h:=h2
        clear h2
        have hfl:=xJ hun
        split at h
        · -- onto nothing
          cases rd
          obtain ⟨hb,hK0,hK1⟩:=h
          by_cases hns:ns=[]
          · subst hns
            exact ⟨.slice none 0 0,.nils,Z,H,w,jJ t ty e i hu hi none base 0 0 c (Nat.le_refl _),.nils,m,.refl ..,hK0 rfl⟩
          · obtain ⟨a, news, rfl, hnl, hcell, h1, hrep⟩ := hsrc.resolve_left hns
            have hpos:0 < ns.length:=List.length_pos_iff.2 hns
            obtain ⟨hm1,hm2⟩:=qS hb hby
            have hr:=run_append_nil (P:=P) w t ty e i z hu hi hz a ns.length c news (by rw [hnl,hfl]) hcell hpos (by omega) (by omega)
            obtain ⟨md,xd,kd⟩:=m.drew
            have hge:=grownCap_ge w ns.length 0 e
            have hcm:=grownCap_le_maxLen w ns.length 0 e hm1
            have hsize:(news.toArray++Builtin.zeroCells z.cells (grownCap w ns.length 0 e - ns.length)).size=grownCap w ns.length 0 e * i.size:=by
              simp only [Array.size_append,List.size_toArray,size_zeroCells,hzs,hnl,hfl,←Nat.add_mul]
              congr 1; omega
            have htake:(news.toArray++Builtin.zeroCells z.cells (grownCap w ns.length 0 e - ns.length)).toList.take (ns.length * i.size)=news:=by
              simp only [Array.toList_append]
              rw [←hfl,←hnl]
              exact List.take_left
            have kall:=kd
            obtain ⟨m',x'⟩:=md.alloc (.cells (news.toArray++Builtin.zeroCells z.cells (grownCap w ns.length 0 e - ns.length)) e)
              (.arr e i.size (.slice (some ⟨w.heap.size,0,none⟩) ns.length (grownCap w ns.length 0 e)) ns)
              (zA4 (.inr rfl) (heap_alloc_new w.drew _) hge hcm hsize hsz hun (by rw [htake]; exact h1)
                (by
                  rw [htake]
                  intro j hj hj'
                  exact ((hrep j hj hj').keep kd).keep (uZ md _)))
            refine ⟨_,_,_,_,_,hr,.own w.heap.size _ rfl,m',xd.trans m.zlt x',hK1 hns _ _ m.fresh rfl⟩
        · -- onto one of our own
          rename_i b v'
          cases rd with
          | own _ _ hvb =>
          split at h
          · rename_i E sz v'' ds hH
            obtain ⟨rfl,rfl,rfl,hb,hK⟩:=h
            obtain ⟨hm1,hm2⟩:=qS hb hby
            obtain ⟨cap,cur,hv,hh,h4,h5,h6,h0,hu',hlf,h1c,hrc⟩:=zAs (m.heap b _ hH)
            have hfl':=xJ hu'
            have hunA:∀ d ∈ ds++ns,(D.cells d).length=i.size:=fun d hd=>by
              rcases List.mem_append.1 hd with h | h
              · exact hu' d h
              · exact hun d h
            have hflA:=xJ hunA
            by_cases hns:ns=[]
            · subst hns
              have hr:=jJ (P:=P) (w:=w) t ty E i hu hi (some ⟨b,0,none⟩) base ds.length cap c h4
              obtain ⟨m',x',k⟩:=m.regrow (b':=b) (o':=.arr E i.size v'' (ds++[])) hH rfl (w':=w) rfl rfl rfl (Nat.le_refl _) (fun _ _ _=>rfl) (.inl rfl) (m.lt _ _ hH)
                (fun k=>by simpa using (m.heap b _ hH).keep k fun _=>⟨.inr rfl,rfl⟩)
              refine ⟨_,_,_,_,w, ?_,.own b v'' hvb,m',x',hK b v'' (.inl rfl) hvb⟩
              rw [hv]
              exact hr
            · obtain ⟨a, news, rfl, hnl, hcell, h1, hrep⟩ := hsrc.resolve_left hns
              have hnl':news.length=ns.length * i.size:=by rw [hnl,hfl]
              have hlA:(ds++ns).length=ds.length+ns.length:=List.length_append
              have rep:∀ {w':World} {Z':Nat→Prop},Keeps Z w Z' w'→∀ (l:List Value),l=cur.toList.take (ds.length * i.size)++news →
                  ∀ j (hj:j < l.length) (hj':j < (flat (ds++ns)).length),RepD V w' Z' l[j] (flat (ds++ns))[j]:=by
                rintro w' Z' k _ rfl j hj hj'
                simp only [zAL] at hj' ⊢
                rw [List.getElem_append,List.getElem_append]
                by_cases c1:j < (cur.toList.take (ds.length * i.size)).length
                · rw [dif_pos c1, dif_pos (by omega)]
                  exact (hrc j c1 (by omega)).keep k
                · rw [dif_neg c1, dif_neg (by omega)]
                  simp only [List.length_append] at hj hj'
                  have:=(hrep (j - (cur.toList.take (ds.length * i.size)).length) (by omega) (by omega)).keep k
                  simpa only [hlf] using this
              have hone:∀ (l:List Value),l=cur.toList.take (ds.length * i.size)++news→∀ x ∈ l,x.oneCell'=true:=by
                rintro _ rfl x hx
                rcases List.mem_append.1 hx with h | h
                · exact h1c x h
                · exact h1 x h
              have hltake:(cur.toList.take (ds.length * i.size)).length=ds.length * i.size:=by rw [hlf,hfl']
              by_cases hroom:ds.length+ns.length≤cap
              · have hfit : ds.length * i.size + news.length ≤ cur.size := by
                  rw [hnl',h6,←Nat.add_mul]; exact Nat.mul_le_mul_right _ hroom
                have hr:=run_append_room (P:=P) w t ty E i hu hi b ds.length cap cur hh a ns.length c news hnl' hcell h1 hroom hfit
                have htk:((cur.toList.take (ds.length * i.size)++news++cur.toList.drop (ds.length * i.size+news.length)).toArray).toList.take ((ds++ns).length * i.size)=cur.toList.take (ds.length * i.size)++news:=by
                  have:(ds++ns).length * i.size=(cur.toList.take (ds.length * i.size)++news).length:=by
                    simp only [List.length_append,hltake,hnl',Nat.add_mul]
                  rw [this]
                  exact List.take_left
                obtain ⟨m',x',k⟩:=m.regrow (b':=b) (o':=.arr E i.size (.slice (some ⟨b,0,none⟩) (ds++ns).length cap) (ds++ns)) hH rfl
                  (w':=w.setRow b (cur.toList.take (ds.length * i.size)++news++cur.toList.drop (ds.length * i.size+news.length)).toArray) rfl rfl rfl (by simp) (fun k _ hk=>setRow_other w b k _ hk) (.inl rfl) (by simpa using m.lt _ _ hH)
                  (fun k=>zA4 (.inr rfl) (setRow_heap w b _ _ E _ hh) (by omega) h5
                    (by simp only [List.size_toArray,List.length_append,hltake,List.length_drop,Array.length_toList]; omega) h0 hunA
                    (by rw [htk]; exact hone _ rfl) (by
                      intro j hj hj'
                      have:=rep k _ htk j hj hj'
                      exact this))
                refine ⟨_,_,_,_,_, ?_,.own b _ rfl,m',x',hK b _ (.inl rfl) rfl⟩
                rw [hv,hr,hlA]
              · have holds : ∀ j u, (cur.toList.take (ds.length * i.size))[j]? = some u → w.cell? ((⟨b, 0, none⟩ : Addr).add j) = some u := by
                  intro j x hx
                  rw [qF]
                  obtain ⟨hj,e⟩:=List.getElem?_eq_some_iff.1 hx
                  simp only [List.length_take,Array.length_toList] at hj
                  simp only [List.getElem_take,Array.getElem_toList] at e
                  simp [World.cell?,hh,←e,show j < cur.size by omega]
                have hr:=run_append_grow (P:=P) w t ty E i z hu hi hz ⟨b,0,none⟩ ds.length cap _ hltake holds a ns.length c news hnl' hcell (by omega) (by omega) (growslice_fits (by omega) hb)
                have hge:=grownCap_ge w (ds.length+ns.length) cap E
                have hcm:=grownCap_le_maxLen w (ds.length+ns.length) cap E hm1
                have htk:((cur.toList.take (ds.length * i.size)).toArray++news.toArray++Builtin.zeroCells z.cells (grownCap w (ds.length+ns.length) cap E - (ds.length+ns.length))).toList.take ((ds++ns).length * i.size)
                    = cur.toList.take (ds.length * i.size)++news:=by
                  simp only [Array.toList_append]
                  have:(ds++ns).length * i.size=(cur.toList.take (ds.length * i.size)++news).length:=by
                    simp only [List.length_append,hltake,hnl',Nat.add_mul]
                  rw [this]
                  exact List.take_left
                obtain ⟨m',x',k⟩:=m.regrow (b':=w.heap.size) (o':=.arr E i.size (.slice (some ⟨w.heap.size,0,none⟩) (ds++ns).length (grownCap w (ds.length+ns.length) cap E)) (ds++ns)) hH rfl
                  (w':=w.drew.alloc (.cells ((cur.toList.take (ds.length * i.size)).toArray++news.toArray++Builtin.zeroCells z.cells (grownCap w (ds.length+ns.length) cap E - (ds.length+ns.length))) E))
                  rfl rfl rfl (by simp) (fun k hk _=>uP w.drew _ k hk) (.inr rfl) (by simp)
                  (fun k=>zA4 (.inr rfl) (heap_alloc_new w.drew _) (by omega) hcm
                    (by
                      simp only [Array.size_append,List.size_toArray,size_zeroCells,hzs,hltake,hnl',←Nat.add_mul]
                      congr 1; omega) h0 hunA
                    (by rw [htk]; exact hone _ rfl) (by
                      intro j hj hj'
                      exact rep k _ htk j hj hj'))
                refine ⟨_,_,_,_,_, ?_,.own w.heap.size _ rfl,m',x',hK _ _ (.inr m.fresh) rfl⟩
                rw [hv,hr,hlA]
          · rename_i v'' es hH
            obtain ⟨rfl,hfull,hns,hes,hun',hb,hK⟩:=h
            obtain ⟨hm1,hm2⟩:=qS hb hby
            have rd:RepD V w Z v'' (.slice es):=(m.heap b _ hH).1
            cases rd with
            | empty a cap=>exact (hes rfl).elim
            | slice b0 o cap _ sz cv hk hz' hbb hs hc h1' hr' =>
              obtain ⟨a,news,rfl,hnl,hcell,h1,hrep⟩:=hsrc.resolve_left hns
              have hcap:es.length=cap:=Nat.eq_of_beq_eq_true hfull
              have hnl':news.length=ns.length * i.size:=by rw [hnl,hfl]
              have hfl':=xJ hun'
              have hpos:0 < ns.length:=List.length_pos_iff.2 hns
              have hlA:(es++ns).length=es.length+ns.length:=List.length_append
              have hunA:∀ d ∈ es++ns,(D.cells d).length=i.size:=fun d hd=>by
                rcases List.mem_append.1 hd with h | h
                · exact hun' d h
                · exact hun d h
              obtain ⟨olds,hol⟩:∃ olds:List Value,olds=(List.range (flat es).length).map cv:=⟨_,rfl⟩
              have hlo:olds.length=es.length * i.size:=by rw [hol]; simp [hfl']
              have hat:∀ j,j < (flat es).length→olds[j]?=some (cv j):=by
                intro j hj; rw [hol]; simp [hj]
              have holds:∀ j u,olds[j]?=some u→w.cell? ((⟨b0,o,none⟩:Addr).add j)=some u:=by
                intro j u hu'
                obtain ⟨hj,_⟩:=List.getElem?_eq_some_iff.1 hu'
                have hj':j < (flat es).length:=by rw [hlo,←hfl'] at hj; exact hj
                rw [hat j hj'] at hu'
                cases hu'
                rw [qF]; exact hc j hj'
              have hr:=run_append_grow (P:=P) w t ty e i z hu hi hz ⟨b0,o,none⟩ es.length cap olds hlo holds a ns.length c news hnl' hcell (by omega) (by omega) (growslice_fits (by omega) hb)
              have hge:=grownCap_ge w (es.length+ns.length) cap e
              have hcm:=grownCap_le_maxLen w (es.length+ns.length) cap e hm1
              obtain ⟨md,xd,kd⟩:=m.drew
              have htk:(olds.toArray++news.toArray++Builtin.zeroCells z.cells (grownCap w (es.length+ns.length) cap e - (es.length+ns.length))).toList.take ((es++ns).length * i.size)=olds++news:=by
                simp only [Array.toList_append]
                have:(es++ns).length * i.size=(olds++news).length:=by
                  simp only [List.length_append,hlo,hnl',Nat.add_mul]
                rw [this]
                exact List.take_left
              obtain ⟨m',x'⟩:=md.alloc (.cells (olds.toArray++news.toArray++Builtin.zeroCells z.cells (grownCap w (es.length+ns.length) cap e - (es.length+ns.length))) e)
                (.arr e i.size (.slice (some ⟨w.heap.size,0,none⟩) (es++ns).length (grownCap w (es.length+ns.length) cap e)) (es++ns))
                (zA4 (.inr rfl) (heap_alloc_new w.drew _) (by omega) hcm
                  (by
                    simp only [Array.size_append,List.size_toArray,size_zeroCells,hzs,hlo,hnl',←Nat.add_mul]
                    congr 1; omega) hsz hunA
                  (by
                    rw [htk]
                    intro x hx
                    rcases List.mem_append.1 hx with h | h
                    · rw [hol] at h
                      obtain ⟨j,hj,rfl⟩:=List.mem_map.1 h
                      exact h1' j (List.mem_range.1 hj)
                    · exact h1 x h)
                  (by
                    rw [htk]
                    intro j hj hj'
                    refine RepD.keep ?_ (uZ md _)
                    refine RepD.keep ?_ kd
                    simp only [zAL] at hj' ⊢
                    rw [List.getElem_append,List.getElem_append]
                    by_cases c1:j < olds.length
                    · have c2 : j < (flat es).length := by rw [hlo, ← hfl'] at c1; exact c1
                      rw [dif_pos c1,dif_pos c2]
                      have:=hat j c2
                      rw [List.getElem?_eq_getElem c1,Option.some.injEq] at this
                      rw [this]; exact hr' j c2
                    · have c2 : ¬ j < (flat es).length := by rw [hlo, ← hfl'] at c1; exact c1
                      rw [dif_neg c1,dif_neg c2]
                      simp only [List.length_append] at hj hj'
                      have h3:=hrep (j - olds.length) (by omega) (by omega)
                      have e3:olds.length=(flat es).length:=by rw [hlo,hfl']
                      simpa only [e3] using h3))
              refine ⟨_,_,_,_,_, ?_,.own w.heap.size _ rfl,m',xd.trans m.zlt x',hK _ _ m.fresh rfl⟩
              rw [hr,hlA]
          · exact h.elim
        · -- nothing, onto a deep one
          rename_i es
          obtain ⟨rfl,hK⟩:=h
          cases rd with
          | d _ _ rd =>
          cases rd with
          | empty a cap=>exact ⟨_,_,Z,H,w,jJ t ty e i hu hi a base 0 cap c (Nat.zero_le _),.d _ _ (.empty ..),m,.refl ..,hK⟩
          | slice b o cap _ sz cv hk hz' hb hs hc h1 hr =>
            exact ⟨_,_,Z,H,w,jJ t ty e i hu hi _ base _ cap c hk,.d _ _ (.slice b o cap es sz cv hk hz' hb hs hc h1 hr),m,.refl ..,hK⟩
        · exact h.elim
      · exact h.elim
    · exact h.elim
  · exact h.elim
end
end Go.Aug

/-
  The abstract layer, part I: literals, new variables, made slices.
-/
namespace Go.Aug
section
variable {P:Program} {V:Env} {Z:Nat→Prop} {H:Heap} {w:World}
def zGv:Value→Option A
  | .int k n=>some (.d (.int k n))
  | .bool b=>some (.d (.bool b))
  | .string s=>some (.d (.str s))
  | .slice none 0 0=>some .nils
  | .pointer none=>some (.d (.raw (.pointer none)))
  | .nilIface=>some (.d (.raw .nilIface))
  | .nilFunc=>some (.d (.raw .nilFunc))
  | .map none=>some (.d (.raw (.map none)))
  | _=>none
def zeroCells:List Value→Option (List A)
  | []=>some []
  | v::vs=>match zGv v,zeroCells vs with
    | some x,some xs=>some (x::xs)
    | _,_=>none
theorem zHA {v:Value} {x:A} (h:zGv v=some x):RepA V w Z v x∧v.oneCell'=true:=by
  unfold zGv at h
  split at h <;> cases h
  · exact ⟨.d _ _ (.int ..),rfl⟩
  · exact ⟨.d _ _ (.bool ..),rfl⟩
  · exact ⟨.d _ _ (.str ..),rfl⟩
  · exact ⟨.nils,rfl⟩
  · exact ⟨.d _ _ (.raw _ rfl),rfl⟩
  · exact ⟨.d _ _ (.raw _ rfl),rfl⟩
  · exact ⟨.d _ _ (.raw _ rfl),rfl⟩
  · exact ⟨.d _ _ (.raw _ rfl),rfl⟩
theorem jN:∀ {vs:List Value} {xs:List A},zeroCells vs=some xs→vs.length=xs.length∧(∀ v ∈ vs,v.oneCell'=true)∧∀ j (h:j < vs.length) (h':j < xs.length),RepA V w Z vs[j] xs[j]
  | [],xs,h=>by simp [zeroCells] at h; subst h; simp
  | v::vs,xs,h=>by
    simp only [zeroCells] at h
    split at h
    · rename_i x ys hx hy
      cases h
      obtain ⟨h1,h2⟩:=zHA (V:=V) (w:=w) (Z:=Z) hx
      obtain ⟨h3,h4,h5⟩:=jN hy
      refine ⟨by simp [h3], ?_, ?_⟩
      · intro u hu
        rcases List.mem_cons.1 hu with rfl | hu
        · exact h2
        · exact h4 u hu
      · intro j hj hj'
        cases j with
        | zero=>exact h1
        | succ j=>exact h5 j (by simpa using hj) (by simpa using hj')
    · cases h
def uV (P:Program) (t:TypeId):Option (List A) :=
  match P.info? t with
  | some i=>match i.zero with
    | some z=>zeroCells z.cells.toList
    | none=>none
  | none=>none
theorem zDO {t:TypeId} {cs:List A} (h:uV P t=some cs):∃ z,(∀ w:World,(zeroValue t).run P w=.ok z w)∧zeroCells z.cells.toList=some cs:=by
  unfold uV at h
  split at h
  · rename_i i hi
    split at h
    · rename_i z hz
      exact ⟨z,fun w=>by simp [zeroValue,typeInfo,hi,hz],h⟩
    · cases h
  · cases h
def zIt (P:Program) (t:TypeId) (H:Heap) (K:A→Heap→Prop):Prop :=
  match uV P t with
  | some cs=>newK H fun b=>K (.ref b 0) (upd H b (.var cs))
  | none=>False
theorem zDe {T:TypeId} {cv:List Value} {cs:List A} {K:A→Heap→Prop} (m:Mem V Z H w) (hl:cv.length=cs.length) (h1:∀ v ∈ cv,v.oneCell'=true)
    (hr:∀ j (h:j < cv.length) (h':j < cs.length),RepA V w Z cv[j] cs[j]) (hK:∀ b,H b=none→K (.ref b 0) (upd H b (.var cs))) :
    ∃ y Z' H' w',(newRow T cv.toArray).run P w=.ok ⟨w.heap.size,0,none⟩ w'∧RepA V w' Z' (.pointer (some ⟨w.heap.size,0,none⟩)) y∧Mem V Z' H' w'∧Ext Z H w Z' H' w'∧K y H':=by
  obtain ⟨m',x'⟩:=m.alloc (.cells cv.toArray T) (.var cs) (zQR m hl h1 hr)
  exact ⟨_,_,_,w.alloc (.cells cv.toArray T),by simp [newRow],.ref ..,m',x',hK _ m.fresh⟩
theorem zGx {t:TypeId} {K:A→Heap→Prop} (h:zIt P t H K) (m:Mem V Z H w) :
    ∃ u y Z' H' w',(Instr.alloc t true (.tuple #[])).run P w=.ok u w'∧RepA V w' Z' u y∧Mem V Z' H' w'∧Ext Z H w Z' H' w'∧K y H':=by
  unfold zIt at h
  split at h
  · rename_i cs hc
    obtain ⟨z,hz,hzc⟩:=zDO hc
    obtain ⟨h1,h2,h3⟩:=jN (V:=V) (w:=w) (Z:=Z) hzc
    obtain ⟨y,Z',H',w',hr,ry,m',x',hK⟩:=zDe (P:=P) (T:=t) (K:=K) m h1 h2 h3 h
    simp only [Array.toArray_toList] at hr
    exact ⟨_,y,Z',H',w',by simp [Instr.alloc,hz,newVar,hr],ry,m',x',hK⟩
  · exact h.elim
def aBox (x:A) (H:Heap) (K:A→Heap→Prop):Prop:=x.good=true∧newK H fun b=>K (.ref b 0) (upd H b (.var x.cells))
theorem zJo {t:TypeId} {x:A} {K:A→Heap→Prop} {v:Value} (h:aBox x H K) (m:Mem V Z H w) (r:RepA V w Z v x) :
    ∃ u y Z' H' w',(Instr.box t v).run P w=.ok u w'∧RepA V w' Z' u y∧Mem V Z' H' w'∧Ext Z H w Z' H' w'∧K y H':=by
  obtain ⟨hg,h⟩:=h
  obtain ⟨h1,h2,h3⟩:=zHK hg r
  obtain ⟨y,Z',H',w',hr,ry,m',x',hK⟩:=zDe (P:=P) (T:=t) (K:=K) m h1 h2 h3 h
  simp only [Array.toArray_toList] at hr
  exact ⟨_,y,Z',H',w',by simp [Instr.box,newVar,hr],ry,m',x',hK⟩
theorem zGO (off:Nat):∀ (l:List Value) (k:Nat) (cells:Array Value),off+k+l.length≤cells.size →
    (l.zipIdx k).foldl (fun cs (p:Value×Nat)=>cs.setIfInBounds (off+p.2) p.1) cells=(yB cells.toList (off+k) l).toArray
  | [],k,cells,_=>by simp [yB]
  | v::l,k,cells,h=>by
    simp only [List.length_cons] at h
    simp only [List.zipIdx_cons,List.foldl_cons]
    rw [zGO off l (k+1) _ (by simp; omega)]
    congr 1
    apply List.ext_getElem?
    intro j
    rw [wL (by simp; omega),wL (by simp; omega)]
    simp only [Array.toList_setIfInBounds,List.getElem?_set,Array.length_toList,List.length_cons]
    by_cases c1:j < off+k
    · simp [c1,show j < off+(k+1) by omega,show ¬ off+k=j by omega]
    · by_cases c2 : j = off + k
      · subst c2
        simp [show off+k < off+(k+1) by omega,show off+k < cells.size by omega]
      · by_cases c3 : j < off + k + (l.length + 1)
        · simp only [c1, c3, show ¬ j < off + (k + 1) by omega, show j < off + (k + 1) + l.length by omega, if_true, if_false]
          rw [show j - (off+k)=(j - (off+(k+1)))+1 by omega]
          simp
        · simp [c1,c3,show ¬ j < off+(k+1) by omega,show ¬ j < off+(k+1)+l.length by omega,show ¬ off+k=j by omega]
theorem zFo (off:Nat) (v:Value) (cells:Array Value) (h:off+v.cells.size≤cells.size) :
    v.cells.zipIdx.foldl (fun cs (p:Value×Nat)=>cs.setIfInBounds (off+p.2) p.1) cells=(yB cells.toList off v.cells.toList).toArray:=by
  rw [←Array.foldl_toList,Array.toList_zipIdx]
  have:=zGO off v.cells.toList 0 cells (by simpa using h)
  simpa using this
def zBC (place:Nat→Option (Nat×Nat)):List A→List (Nat×A)→Option (List A)
  | cs,[]=>some cs
  | cs,(i,x)::rest=>match place i with
    | none=>none
    | some (off,size)=>if x.good=true∧x.cells.length=size∧off+size≤cs.length then zBC place (yB cs off x.cells) rest else none
theorem zBM (place:Nat→Option (Nat×Nat)):∀ (parts:List (Nat×A)) (vparts:List (Nat×Value)) (cs:List A) (cv:List Value) (out:List A),
    zBC place cs parts=some out→parts.length=vparts.length→(∀ j (h:j < parts.length) (h':j < vparts.length),parts[j].1=vparts[j].1∧RepA V w Z vparts[j].2 parts[j].2) →
    cv.length=cs.length→(∀ v ∈ cv,v.oneCell'=true)→(∀ j (h:j < cv.length) (h':j < cs.length),RepA V w Z cv[j] cs[j]) →
    ∃ ov:List Value,Instr.fill place cv.toArray vparts=some ov.toArray∧ov.length=out.length∧(∀ v ∈ ov,v.oneCell'=true)∧∀ j (h:j < ov.length) (h':j < out.length),RepA V w Z ov[j] out[j]
  | [],vparts,cs,cv,out,h,hl,hp,hcl,h1,hr=>by
    match vparts,hl with
    | [],_=>simp [zBC] at h; subst h; exact ⟨cv,rfl,hcl,h1,hr⟩
  | (i,x)::rest,vparts,cs,cv,out,h,hl,hp,hcl,h1,hr=>by
    match vparts,hl with
    | (i',v)::vrest,hl =>
      obtain ⟨e,rx⟩:=hp 0 (by simp) (by simp)
      simp at e rx
      subst e
      simp only [zBC] at h
      split at h
      · cases h
      · rename_i off size hpl
        split at h
        · rename_i hc
          obtain ⟨hg,hs,hfit⟩:=hc
          obtain ⟨c1,c2,c3⟩:=zHK hg rx
          have hvs:v.cells.size=size:=by rw [←Array.length_toList,c1,hs]
          have hlen:=xW (cs:=cv) (o:=off) (xs:=v.cells.toList) (by omega)
          have hlen':=xW (cs:=cs) (o:=off) (xs:=x.cells) (by omega)
          obtain ⟨ov,o1,o2,o3,o4⟩:=zBM place rest vrest _ (yB cv off v.cells.toList) out h (by simpa using hl)
            (fun j h h'=>hp (j+1) (by simpa using h) (by simpa using h')) (by rw [hlen,hlen',hcl])
            (by
              intro u hu
              simp only [yB,List.mem_append] at hu
              rcases hu with (hu | hu) | hu
              · exact h1 u (List.mem_of_mem_take hu)
              · exact c2 u hu
              · exact h1 u (List.mem_of_mem_drop hu))
            (zEA hcl c1 (by omega) hr c3)
          refine ⟨ov, ?_,o2,o3,o4⟩
          simp only [Instr.fill,hpl]
          rw [if_neg (by simp; omega)]
          have:=zFo off v cv.toArray (by simp; omega)
          simp only at this
          rw [←o1]
          congr 1
        · cases h
def zFs (P:Program) (fields:Array Field) (i:Nat):Option (Nat×Nat) :=
  match fields[i]? with
  | some f=>match P.info? f.type with
    | some j=>some (f.offset,j.size)
    | none=>none
  | none=>none
def zIc (P:Program) (fields:Array Field):Bool:=fields.all fun f=>(P.info? f.type).isSome
def zG7 (len sz:Nat) (k:Nat):Option (Nat×Nat):=if k < len then some (k * sz,sz) else none
theorem zFn {place place':Nat→Option (Nat×Nat)} (hp:∀ k p,place k=some p→place' k=some p):∀ (parts:List (Nat×A)) (cs out:List A),zBC place cs parts=some out→zBC place' cs parts=some out
  | [],_,_,h=>h
  | (i,x)::rest,cs,out,h=>by
    simp only [zBC] at h ⊢
    split at h
    · cases h
    · rename_i off size hq
      rw [hp _ _ hq]
      simp only
      split at h
      · rename_i hc; rw [if_pos hc]; exact zFn hp rest _ out h
      · cases h
def yZ (P:Program) (t:TypeId) (parts:List (Nat×A)) (K:A→Prop):Prop :=
  match P.underlying t,uV P t with
  | some (.struct fields),some zs=>if zIc P fields=true then match zBC (zFs P fields) zs parts with
    | some cs=>K (aggN cs)
    | none=>False
    else False
  | some (.array len e),some zs=>match P.info? e with
    | some i=>match zBC (zG7 len i.size) zs parts with
      | some cs=>K (aggN cs)
      | none=>False
    | none=>False
  | _,_=>False
theorem zGy {t:TypeId} {parts:List (Nat×A)} {K:A→Prop} {vparts:Array (Nat×Value)} (h:yZ P t parts K) (hl:parts.length=vparts.toList.length)
    (hp:∀ j (h:j < parts.length) (h':j < vparts.toList.length),parts[j].1=vparts.toList[j].1∧RepA V w Z vparts.toList[j].2 parts[j].2) :
    ∃ u y,(Instr.build t vparts).run P w=.ok u w∧RepA V w Z u y∧K y:=by
  unfold yZ at h
  split at h
  · rename_i fields zs hu hz
    split at h
    · rename_i hsz
      split at h
      · rename_i cs hc
        obtain ⟨z,hzr,hzc⟩:=zDO hz
        obtain ⟨z1,z2,z3⟩:=jN (V:=V) (w:=w) (Z:=Z) hzc
        obtain ⟨ov,o1,o2,o3,o4⟩:=zBM _ parts vparts.toList zs z.cells.toList cs hc hl hp z1 z2 z3
        have hm:(fields.mapM (m:=Sem) fun f=>do pure (f.offset,←sizeOf f.type)).run P w=.ok (fields.map fun f=>(f.offset,((P.info? f.type).map (·.size)).getD 0)) w:=by
          have key:∀ (l:List Field),(∀ f ∈ l,(P.info? f.type).isSome=true)→(l.mapM (m:=Sem) fun f=>do pure (f.offset,←sizeOf f.type)).run P w=.ok (l.map fun f=>(f.offset,((P.info? f.type).map (·.size)).getD 0)) w:=by
            intro l
            induction l with
            | nil=>intro _; simp
            | cons f l ih =>
              intro hf
              obtain ⟨i,hi⟩:=Option.isSome_iff_exists.1 (hf f (by simp))
              have:=ih (fun g hg=>hf g (by simp [hg]))
              rw [List.mapM_cons,Sem.run_bind]
              have h1:(sizeOf f.type).run P w=.ok i.size w:=by simp [sizeOf,typeInfo,hi]
              simp only [Sem.run_bind,this,h1,hi,Result.andThen_ok,Sem.run_pure,List.map_cons,Option.map_some,Option.getD_some]
          have:=key fields.toList (by
            intro f hf
            have:=Array.all_eq_true_iff_forall_mem.1 hsz f (by simpa using hf)
            exact this)
          rw [Array.mapM_eq_mapM_toList,Sem.run_map,this,Result.andThen_ok]
          congr 1
          apply Array.ext'
          simp
        have hpl:(fun i=>(fields.map fun f=>(f.offset,((P.info? f.type).map (·.size)).getD 0))[i]?)=zFs P fields:=by
          funext i
          simp only [Array.getElem?_map,zFs]
          cases hf:fields[i]? with
          | none=>rfl
          | some f =>
            have:=Array.all_eq_true_iff_forall_mem.1 hsz f (Array.mem_of_getElem? hf)
            obtain ⟨j,hj⟩:=Option.isSome_iff_exists.1 this
            simp [hj]
        refine ⟨.agg ov.toArray,_, ?_,zCm (.agg ov cs o2 o3 o4),h⟩
        simp only [Array.toArray_toList] at o1
        simp only [Instr.build,Sem.run_bind,hzr,Result.andThen_ok,run_underlying hu,hm,hpl,o1,Sem.run_pure]
      · exact h.elim
    · exact h.elim
  · rename_i len e zs hu hz
    split at h
    · rename_i i hi
      split at h
      · rename_i cs hc
        obtain ⟨z,hzr,hzc⟩:=zDO hz
        obtain ⟨z1,z2,z3⟩:=jN (V:=V) (w:=w) (Z:=Z) hzc
        have hc':=zFn (place':=fun k=>some (k * i.size,i.size)) (fun k p hk=>by unfold zG7 at hk; split at hk <;> first | exact hk | cases hk) parts zs cs hc
        obtain ⟨ov,o1,o2,o3,o4⟩:=zBM _ parts vparts.toList zs z.cells.toList cs hc' hl hp z1 z2 z3
        have hsz:(sizeOf e).run P w=.ok i.size w:=by simp [sizeOf,typeInfo,hi]
        refine ⟨.agg ov.toArray,_, ?_,zCm (.agg ov cs o2 o3 o4),h⟩
        simp only [Array.toArray_toList] at o1
        simp only [Instr.build,Sem.run_bind,hzr,Result.andThen_ok,run_underlying hu,hsz,o1,Sem.run_pure]
      · exact h.elim
    · exact h.elim
  · exact h.elim
def litV (b n:Nat):Value:=.slice (some ⟨b,0,none⟩) n n
def isU8 (P:Program) (t:TypeId):Bool:=match P.underlying t with
  | some (.int .u8)=>true
  | _=>false
def rowK (u8:Bool) (n:Nat) (H:Heap) (K:Nat→Value→Prop):Prop:=match u8 with
  | true=>newK H fun b=>K b (litV b n)
  | false=>newV H K
theorem rowK.at {u8:Bool} {n b:Nat} {K:Nat→Value→Prop} (h:rowK u8 n H K) (hb:H b=none):K b (litV b n):=by
  cases u8
  · exact h b _ hb rfl
  · exact h b hb
def zJ (P:Program) (t:TypeId) (len:Nat) (parts:List (Nat×A)) (H:Heap) (K:A→Heap→Prop):Prop :=
  match P.underlying t with
  | some (.slice e)=>match P.info? e,uV P e with
    | some i,some zs=>zs.length=i.size∧0 < i.size∧len * i.size≤16777216∧parts.map (·.1)=List.range len ∧
      xU H (parts.map (·.2)) fun ds H=>(∀ d ∈ ds,d.cells.length=i.size)∧rowK (isU8 P e) len H fun b v=>K (.own b v) (upd H b (.arr e i.size v ds))
    | _,_=>False
  | _=>False
theorem zIH (size:Nat):∀ (vs:List Value) (k:Nat) (cells:List Value),(∀ v ∈ vs,v.cells.size=size)→k * size+vs.length * size≤cells.length →
    Instr.fill (fun i=>some (i * size,size)) cells.toArray ((List.range' k vs.length).zip vs)=some (yB cells (k * size) (vs.flatMap fun v=>v.cells.toList)).toArray
  | [],k,cells,_,_=>by simp [Instr.fill,yB]
  | v::vs,k,cells,hs,hfit=>by
    have h0:=hs v (by simp)
    simp only [List.length_cons,Nat.add_mul,Nat.one_mul] at hfit
    have hfl:(vs.flatMap fun v=>v.cells.toList).length=vs.length * size:=by
      have:∀ (l:List Value),(∀ v ∈ l,v.cells.size=size)→(l.flatMap fun v=>v.cells.toList).length=l.length * size:=by
        intro l
        induction l with
        | nil=>intro _; simp
        | cons x l ih =>
          intro h
          rw [List.flatMap_cons,List.length_append,ih (fun v hv=>h v (by simp [hv])),List.length_cons,Nat.add_mul,Array.length_toList,h x (by simp)]
          omega
      exact this vs (fun v hv=>hs v (by simp [hv]))
    simp only [List.length_cons,List.range'_succ,List.zip_cons_cons,Instr.fill]
    rw [if_neg (by simp; omega)]
    have:=zFo (k * size) v cells.toArray (by simp; omega)
    simp only at this
    rw [this]
    have hlen:=xW (cs:=cells) (o:=k * size) (xs:=v.cells.toList) (by simp; omega)
    rw [zIH size vs (k+1) (yB cells (k * size) v.cells.toList) (fun v hv=>hs v (by simp [hv])) (by rw [hlen,Nat.add_mul]; omega)]
    congr 2
    apply List.ext_getElem?
    intro j
    have e1:=wL (cs:=yB cells (k * size) v.cells.toList) (o:=(k+1) * size) (xs:=vs.flatMap fun v=>v.cells.toList) (by rw [hlen,hfl,Nat.add_mul]; omega) j
    have e2:=wL (cs:=cells) (o:=k * size) (xs:=v.cells.toList) (by simp; omega) j
    have e3:=wL (cs:=cells) (o:=k * size) (xs:=(v::vs).flatMap fun v=>v.cells.toList) (by rw [List.flatMap_cons,List.length_append,hfl,Array.length_toList]; omega) j
    rw [e1,e2,e3,List.flatMap_cons,List.length_append,hfl,Array.length_toList,h0,Nat.add_mul,Nat.one_mul]
    by_cases c1:j < k * size
    · simp [c1,show j < k * size+size by omega]
    · by_cases c2 : j < k * size + size
      · simp only [c1, c2, show j < k * size + (size + vs.length * size) by omega, if_true, if_false]
        rw [List.getElem?_append_left (by simp; omega)]
      · by_cases c3 : j < k * size + size + vs.length * size
        · simp only [c1, c2, c3, show j < k * size + (size + vs.length * size) by omega, if_true, if_false]
          rw [List.getElem?_append_right (by simp; omega),Array.length_toList,h0]
          congr 1; omega
        · simp [c1,c2,c3,show ¬ j < k * size+(size+vs.length * size) by omega]
theorem zGq {α:Type} {cs xs:List α} (h:xs.length=cs.length):yB cs 0 xs=xs:=by simp [yB,h]
theorem zCD {t:TypeId} {len:Nat} {parts:List (Nat×A)} {K:A→Heap→Prop} {vparts:Array (Nat×Value)} (h:zJ P t len parts H K) (m:Mem V Z H w) (hl:parts.length=vparts.toList.length)
    (hp:∀ j (h:j < parts.length) (h':j < vparts.toList.length),parts[j].1=vparts.toList[j].1∧RepA V w Z vparts.toList[j].2 parts[j].2) :
    ∃ u y Z' H' w',(Instr.buildSlice t len vparts).run P w=.ok u w'∧RepA V w' Z' u y∧Mem V Z' H' w'∧Ext Z H w Z' H' w'∧K y H':=by
  obtain ⟨vl⟩:=vparts
  simp only at hl hp
  unfold zJ at h
  split at h
  · rename_i e hu
    split at h
    · rename_i i zs hi hz
      obtain ⟨hzl,hsz,hlen,hrange,h⟩:=h
      obtain ⟨z,hzr,hzc⟩:=zDO hz
      obtain ⟨z1,_,_⟩:=jN (V:=V) (w:=w) (Z:=Z) hzc
      have hzs:z.cells.size=i.size:=by rw [←Array.length_toList,z1,hzl]
      obtain ⟨ds,H1,Z1,hdl,hrep,m1,x1,hds,hK⟩:=zBK (parts.map (·.2)) h m (vl.map (·.2)) (by simp [hl])
        (fun j h h'=>by have:=(hp j (by simpa using h') (by simpa using h)).2; simpa using this)
      have hk1:=m.keeps x1
      have hlen':parts.length=len:=by have:=congrArg List.length hrange; simpa using this
      have hdlen:ds.length=len:=by rw [←hdl]; simp [←hlen',hl]
      have hvs:∀ (j:Nat) (hj:j < (vl.map (·.2)).length) (hj':j < ds.length),_:=fun j hj hj'=>zD2 (hrep j hj hj')
      have hsize:∀ v ∈ vl.map (·.2),v.cells.size=i.size:=by
        intro v hv
        obtain ⟨j,hj,rfl⟩:=List.getElem_of_mem hv
        rw [←Array.length_toList,(hvs j hj (by omega)).1]
        exact hds _ (List.getElem_mem _)
      have hzip:vl=(List.range' 0 (vl.map (·.2)).length).zip (vl.map (·.2)):=by
        apply List.ext_getElem
        · simp
        · intro j h1 h2
          have:=(hp j (by omega) h1).1
          have hr:(parts.map (·.1))[j]'(by simp; omega)=j:=by simp [hrange]
          simp only [List.getElem_map] at hr
          simp only [List.getElem_zip,List.getElem_range',List.getElem_map]
          refine Prod.ext ?_ rfl
          show vl[j].1=0+1 * j
          rw [←this,hr]; omega
      have hcap:vl.length=len:=by omega
      have hcells:((Array.range (len * i.size)).map (z.cells[· % z.cells.size]!)).size=len * i.size:=by simp
      have hfill:=zIH i.size (vl.map (·.2)) 0 ((Array.range (len * i.size)).map (z.cells[· % z.cells.size]!)).toList hsize (by simp [hcap])
      rw [←hzip] at hfill
      have hflen:((vl.map (·.2)).flatMap fun v=>v.cells.toList).length=len * i.size:=by
        have:∀ (l:List Value),(∀ v ∈ l,v.cells.size=i.size)→(l.flatMap fun v=>v.cells.toList).length=l.length * i.size:=by
          intro l
          induction l with
          | nil=>intro _; simp
          | cons x l ih =>
            intro h
            rw [List.flatMap_cons,List.length_append,ih (fun v hv=>h v (by simp [hv])),List.length_cons,Nat.add_mul,Array.length_toList,h x (by simp)]
            omega
        rw [this _ hsize]; simp [hcap]
      rw [Nat.zero_mul,zGq (by rw [hflen]; simp)] at hfill
      simp only [Array.toArray_toList] at hfill
      -- the cells, one by one
      have hall:∀ (vs:List Value) (ds:List D),vs.length=ds.length→(∀ j (hj:j < vs.length) (hj':j < ds.length),RepD V w Z1 vs[j] ds[j]) →
          (vs.flatMap fun v=>v.cells.toList).length=(flat ds).length∧(∀ u ∈ vs.flatMap fun v=>v.cells.toList,u.oneCell'=true) ∧
          ∀ j (h:j < (vs.flatMap fun v=>v.cells.toList).length) (h':j < (flat ds).length),RepD V w Z1 (vs.flatMap fun v=>v.cells.toList)[j] (flat ds)[j]:=by
        intro vs
        induction vs with
        | nil =>
          intro ds hl _
          have:ds=[]:=List.eq_nil_of_length_eq_zero (by simpa using hl.symm)
          subst this
          simp [flat]
        | cons v vs ih =>
          intro ds hl hr
          match ds,hl with
          | d::ds,hl =>
            obtain ⟨c1,c2,c3⟩:=zD2 (hr 0 (by simp) (by simp))
            obtain ⟨i1,i2,i3⟩:=ih ds (by simpa using hl) (fun j h h'=>hr (j+1) (by simpa using h) (by simpa using h'))
            simp only [List.getElem_cons_zero] at c1 c2 c3
            refine ⟨by simp only [List.flatMap_cons,flat,List.length_append] at i1 ⊢; omega, ?_, ?_⟩
            · intro u hu
              rw [List.flatMap_cons] at hu
              rcases List.mem_append.1 hu with h | h
              · exact c2 u h
              · exact i2 u h
            · intro j hj hj'
              simp only [flat,List.flatMap_cons] at hj hj' i1 i3 ⊢
              rw [List.getElem_append,List.getElem_append]
              by_cases c:j < v.cells.toList.length
              · rw [dif_pos c,dif_pos (by omega)]; exact c3 j c (by omega)
              · rw [dif_neg c, dif_neg (by omega)]
                simp only [List.length_append] at hj hj'
                have:=i3 (j - v.cells.toList.length) (by omega) (by omega)
                simpa only [c1] using this
      obtain ⟨f1,f2,f3⟩:=hall _ ds hdl hrep
      have hds':ds.length * i.size=len * i.size:=by rw [hdlen]
      have htk:(((vl.map (·.2)).flatMap fun v=>v.cells.toList).toArray.toList.take (ds.length * i.size))=(vl.map (·.2)).flatMap fun v=>v.cells.toList:=by
        rw [hds']; exact List.take_of_length_le (by rw [hflen]; exact Nat.le_refl _)
      have hmax:len≤maxLen:=by
        have:len≤len * i.size:=Nat.le_mul_of_pos_right _ hsz
        simp only [maxLen]; omega
      obtain ⟨m2,x2⟩:=m1.alloc (.cells ((vl.map (·.2)).flatMap fun v=>v.cells.toList).toArray e) (.arr e i.size (.slice (some ⟨w.heap.size,0,none⟩) ds.length len) ds)
        (zA4 (.inr rfl) (heap_alloc_new w _) (by omega) hmax (by simpa using hflen) hsz hds (by rw [htk]; exact f2)
          (by
            rw [htk]
            intro j hj hj'
            exact (f3 j hj hj').keep (uZ m1 _)))
      have hK':=hK.at m1.fresh
      have elit:litV w.heap.size len=.slice (some ⟨w.heap.size,0,none⟩) ds.length len:=by rw [hdlen]; rfl
      rw [elit] at hK'
      refine ⟨_,_,_,_,w.alloc (.cells ((vl.map (·.2)).flatMap fun v=>v.cells.toList).toArray e), ?_,.own w.heap.size _ rfl,m2,x1.trans m.zlt x2,hK'⟩
      rw [hdlen]
      simp only [Instr.buildSlice,Sem.run_bind,run_underlying hu,Result.andThen_ok,sizeOf,typeInfo,run_program,hi,Sem.run_pure]
      rw [if_neg (by omega)]
      by_cases c0:len * i.size=0
      · have hl0 : len = 0 := by
          rcases Nat.mul_eq_zero.1 c0 with h | h
          · exact h
          · omega
        subst hl0
        have hv0:vl=[]:=List.eq_nil_of_length_eq_zero hcap
        have hr0:(Array.map (fun x=>(default:Value)) (Array.range 0))=#[]:=by apply Array.eq_empty_of_size_eq_zero; simp
        simp [hv0,Instr.fill,newRow,hr0]
      · rw [if_neg c0]
        simp only [Sem.run_bind,hzr,Result.andThen_ok,Sem.run_pure,hfill]
        simp [newRow]
    · exact h.elim
  · exact h.elim
end
end Go.Aug

/-
  The abstract layer, part J: made slices, arithmetic, comparisons, conversions.
-/
namespace Go.Aug
section
variable {P:Program} {V:Env} {Z:Nat→Prop} {H:Heap} {w:World}
def Ans (P:Program) (V:Env) (w:World) (Z:Nat→Prop) (s:Sem Value) (K:A→Prop):Prop:=∃ u y,s.run P w=.ok u w∧RepA V w Z u y∧K y
def zCe (op:BinOp) (k:IntKind) (a b:Int) (K:A→Prop):Prop :=
  match op with
  | .add=>K (.d (.int k (k.wrap (a+b))))
  | .sub=>K (.d (.int k (k.wrap (a - b))))
  | .mul=>K (.d (.int k (k.wrap (a * b))))
  | .quo=>b≠0∧K (.d (.int k (k.wrap (a.tdiv b))))
  | .rem=>b≠0∧K (.d (.int k (a.tmod b)))
  | .and=>K (.d (.int k (bits .and k a b)))
  | .or=>K (.d (.int k (bits .or k a b)))
  | .xor=>K (.d (.int k (bits .xor k a b)))
  | .andNot=>K (.d (.int k (bits .andNot k a b)))
  | .eql=>K (.d (.bool (decide (a=b))))
  | .neq=>K (.d (.bool (!decide (a=b))))
  | .lss=>K (.d (.bool (decide (a < b))))
  | .leq=>K (.d (.bool (decide (a≤b))))
  | .gtr=>K (.d (.bool (decide (b < a))))
  | .geq=>K (.d (.bool (decide (b≤a))))
  | _=>False
theorem zOY (a b:Int):(a == b)=decide (a=b):=rfl
theorem zHR {op:BinOp} {k:IntKind} {a b:Int} {t:TypeId} {K:A→Prop} (h:zCe op k a b K):Ans P V w Z (binOp op t (.int k a) (.int k b)) K:=by
  unfold zCe at h
  split at h
  · exact ⟨_,_,by simp [binOp,Op.intArith],.d _ _ (.int ..),h⟩
  · exact ⟨_,_,by simp [binOp,Op.intArith],.d _ _ (.int ..),h⟩
  · exact ⟨_,_,by simp [binOp,Op.intArith],.d _ _ (.int ..),h⟩
  · exact ⟨_,_,by simp [binOp,Op.intDiv,h.1],.d _ _ (.int ..),h.2⟩
  · exact ⟨_,_,by simp [binOp,Op.intDiv,h.1],.d _ _ (.int ..),h.2⟩
  · exact ⟨_,_,by simp [binOp,intBits_and],.d _ _ (.int ..),h⟩
  · exact ⟨_,_,by simp [binOp,intBits_or],.d _ _ (.int ..),h⟩
  · exact ⟨_,_,by simp [binOp,intBits_xor],.d _ _ (.int ..),h⟩
  · exact ⟨_,_,by simp [binOp,intBits_andNot],.d _ _ (.int ..),h⟩
  · exact ⟨.bool (decide (a=b)),_,by simp [binOp,Op.intCmp,zOY],.d _ _ (.bool ..),h⟩
  · exact ⟨.bool (!decide (a=b)),_,by simp [binOp,Op.intCmp,bne,zOY],.d _ _ (.bool ..),h⟩
  · exact ⟨_,_,by simp [binOp,Op.intCmp],.d _ _ (.bool ..),h⟩
  · exact ⟨_,_,by simp [binOp,Op.intCmp],.d _ _ (.bool ..),h⟩
  · exact ⟨.bool (decide (b < a)),_,by simp [binOp,Op.intCmp],.d _ _ (.bool ..),h⟩
  · exact ⟨.bool (decide (b≤a)),_,by simp [binOp,Op.intCmp],.d _ _ (.bool ..),h⟩
  · exact h.elim
def zES (op:BinOp) (k:IntKind) (a b:Int) (K:A→Prop):Prop :=
  match op with
  | .shl=>0≤b∧K (.d (.int k (k.wrap (a * 2 ^ (min b.toNat k.bits)))))
  | .shr=>0≤b∧K (.d (.int k (a.fdiv (2 ^ (min b.toNat k.bits)))))
  | _=>False
theorem zCB {op:BinOp} {k k':IntKind} {a b:Int} {t:TypeId} {K:A→Prop} (h:zES op k a b K):Ans P V w Z (binOp op t (.int k a) (.int k' b)) K:=by
  unfold zES at h
  split at h
  · exact ⟨_,_,by simp [binOp,Op.shift,show ¬ b < 0 by omega],.d _ _ (.int ..),h.2⟩
  · exact ⟨_,_,by simp [binOp,Op.shift,show ¬ b < 0 by omega],.d _ _ (.int ..),h.2⟩
  · exact h.elim
def zOJ (op:BinOp) (a b:ByteArray) (K:A→Prop):Prop :=
  match op with
  | .add=>a.size+b.size≤9223372036854775807∧K (.d (.str (a++b)))
  | .eql=>K (.d (.bool (decide (a=b))))
  | .neq=>K (.d (.bool (!decide (a=b))))
  | .lss=>K (.d (.bool (Op.bytesLess a.toList b.toList)))
  | .gtr=>K (.d (.bool (!(Op.bytesLess a.toList b.toList || decide (a=b)))))
  | .leq=>K (.d (.bool (Op.bytesLess a.toList b.toList || decide (a=b))))
  | .geq=>K (.d (.bool (!Op.bytesLess a.toList b.toList)))
  | _=>False
theorem zCC (a b:ByteArray):(a.toList == b.toList)=decide (a=b):=by
  rw [ByteArray.toList_eq,ByteArray.toList_eq]
  by_cases h:a=b
  · subst h; simp
  · have : ¬ a.data = b.data := fun e => h (by cases a; cases b; simp_all)
    simp [h,this]
theorem zIk {op:BinOp} {a b:ByteArray} {t:TypeId} {K:A→Prop} (h:zOJ op a b K):Ans P V w Z (binOp op t (.string a) (.string b)) K:=by
  have e:∀ (s t:ByteArray),(s.toList == t.toList)=decide (s=t):=zCC
  unfold zOJ at h
  split at h
  · obtain ⟨h1, h⟩ := h
    have:¬ (((a.size+b.size:Nat):Int) > IntKind.i64.max):=by simp [IntKind.max,IntKind.signed,IntKind.bits]; omega
    exact ⟨.string (a++b),_,by simp only [binOp,Op.stringOp,this,if_false]; rfl,.d _ _ (.str ..),h⟩
  · exact ⟨.bool (decide (a=b)),_,by simp only [binOp,Op.stringOp,e]; rfl,.d _ _ (.bool ..),h⟩
  · exact ⟨.bool (!decide (a=b)),_,by simp only [binOp,Op.stringOp,e]; rfl,.d _ _ (.bool ..),h⟩
  · exact ⟨.bool (Op.bytesLess a.toList b.toList),_,by simp only [binOp,Op.stringOp]; rfl,.d _ _ (.bool ..),h⟩
  · exact ⟨.bool (!(Op.bytesLess a.toList b.toList || decide (a=b))),_,by simp only [binOp,Op.stringOp,e]; rfl,.d _ _ (.bool ..),h⟩
  · exact ⟨.bool (Op.bytesLess a.toList b.toList || decide (a=b)),_,by simp only [binOp,Op.stringOp,e]; rfl,.d _ _ (.bool ..),h⟩
  · exact ⟨.bool (!Op.bytesLess a.toList b.toList),_,by simp only [binOp,Op.stringOp]; rfl,.d _ _ (.bool ..),h⟩
  · exact h.elim
def zMU (P:Program) (V:Env) (t:TypeId):Bool :=
  match P.underlying t,P.underlying V.T,P.info? V.T,P.info? V.TE with
  | some (.interface _),some (.pointer e),some i,some j=>e == V.TE && i.comparable && j.size != 0
  | _,_,_,_=>false
def jU (P:Program) (t:TypeId):Bool:=match P.underlying t with | some (.interface _)=>true | _=>false
def zEa (P:Program) (t:TypeId):Bool:=match P.underlying t with | some .bool=>true | _=>false
def zDa (P:Program) (t:TypeId):Bool:=match P.underlying t with | some (.pointer _)=>true | _=>false
def wH (P:Program) (t:TypeId):Bool:=match P.underlying t with | some (.slice _)=>true | _=>false
def zF1 (P:Program) (t:TypeId):Bool:=match P.underlying t with | some (.func ..)=>true | _=>false
def aEq (P:Program) (V:Env) (t:TypeId) (x y:A) (K:Bool→Prop):Prop :=
  match x,y with
  | .d (.bool a),.d (.bool b)=>zEa P t=true∧K (a == b)
  | .d (.sent g),.d (.sent g')=>zMU P V t=true∧V.G g=some (.sent g)∧V.G g'=some (.sent g')∧K (decide (g=g'))
  | .d (.sent _),.d (.raw .nilIface)=>jU P t=true∧K false
  | .d (.raw (.iface _ _)),.d (.raw .nilIface)=>jU P t=true∧K false
  | .d (.raw .nilIface),.d (.sent _)=>jU P t=true∧K false
  | .d (.raw .nilIface),.d (.raw .nilIface)=>jU P t=true∧K true
  | .ref _ _,.d (.raw (.pointer none))=>zDa P t=true∧K false
  | .imm _,.d (.raw (.pointer none))=>zDa P t=true∧K false
  | .eref ..,.d (.raw (.pointer none))=>zDa P t=true∧K false
  | .d (.raw (.pointer none)),.d (.raw (.pointer none))=>zDa P t=true∧K true
  | .nils,.nils=>wH P t=true∧K true
  | .own ..,.nils=>wH P t=true∧K false
  | .d (.slice es),.nils=>wH P t=true∧K false∧(es=[]→K true)
  | .func ..,.d (.raw .nilFunc)=>zF1 P t=true∧K false
  | .d (.raw .nilFunc),.d (.raw .nilFunc)=>zF1 P t=true∧K true
  | _,_=>False
theorem RepA.deep {v:Value} {x:D} (h:RepA V w Z v (.d x)):RepD V w Z v x:=by cases h; assumption
theorem vZ {t:TypeId} {x y:Value} {b:Bool} (h:∀ d:Nat,(Op.equalIn (d+2) t x y).run P w=.ok b w):(Op.equal t x y).run P w=.ok b w:=by
  simp only [Op.equal,Op.maxDepth]; exact h 9998
theorem zPU {t:TypeId} (hu:P.underlying t=some .bool) (a b:Bool):(Op.equal t (.bool a) (.bool b)).run P w=.ok (a == b) w:=vZ fun d=>by simp [Op.equalIn,run_underlying hu]
theorem zC4 {t:TypeId} {ms} (hu:P.underlying t=some (.interface ms)) (T:TypeId) (v:Value):(Op.equal t (.iface T v) .nilIface).run P w=.ok false w:=vZ fun d=>by simp [Op.equalIn,run_underlying hu]
theorem zGK {t:TypeId} {ms} (hu:P.underlying t=some (.interface ms)) (T:TypeId) (v:Value):(Op.equal t .nilIface (.iface T v)).run P w=.ok false w:=vZ fun d=>by simp [Op.equalIn,run_underlying hu]
theorem zJC {t:TypeId} {ms} (hu:P.underlying t=some (.interface ms)):(Op.equal t .nilIface .nilIface).run P w=.ok true w:=vZ fun d=>by simp [Op.equalIn,run_underlying hu]
theorem zCI {t e:TypeId} (hu:P.underlying t=some (.pointer e)) (a:Addr):(Op.equal t (.pointer (some a)) (.pointer none)).run P w=.ok false w:=vZ fun d=>by simp [Op.equalIn,run_underlying hu]
theorem zKE {t e:TypeId} (hu:P.underlying t=some (.pointer e)):(Op.equal t (.pointer none) (.pointer none)).run P w=.ok true w:=vZ fun d=>by simp [Op.equalIn,run_underlying hu]
theorem kD {t e:TypeId} (hu:P.underlying t=some (.slice e)) (a:Option Addr) (n c:Nat):(Op.equal t (.slice a n c) (.slice none 0 0)).run P w=.ok a.isNone w:=vZ fun d=>by
  cases a <;> simp [Op.equalIn,run_underlying hu]
theorem zHN {t:TypeId} {ps rs b} (hu:P.underlying t=some (.func ps rs b)) (f:Fn) (x y:Array Value):(Op.equal t (.func f x y) .nilFunc).run P w=.ok false w:=vZ fun d=>by simp [Op.equalIn,run_underlying hu]
theorem zJD {t:TypeId} {ps rs b} (hu:P.underlying t=some (.func ps rs b)):(Op.equal t .nilFunc .nilFunc).run P w=.ok true w:=vZ fun d=>by simp [Op.equalIn,run_underlying hu]
theorem zGz {t:TypeId} {x y:A} {K:Bool→Prop} {v u:Value} (h:aEq P V t x y K) (m:Mem V Z H w) (rx:RepA V w Z v x) (ry:RepA V w Z u y) :
    ∃ b,(Op.equal t v u).run P w=.ok b w∧K b:=by
  unfold aEq at h
  split at h
  · -- bools
    have rx:=rx.deep; have ry:=ry.deep; cases rx; cases ry
    obtain ⟨ht,hK⟩:=h
    unfold zEa at ht; split at ht <;> try (cases ht; done)
    rename_i hu
    exact ⟨_,zPU hu _ _,hK⟩
  · -- two sentinels
    rename_i g g'
    have rx:=rx.deep; have ry:=ry.deep; cases rx; cases ry
    obtain ⟨ht,hg,hg',hK⟩:=h
    unfold zMU at ht
    split at ht <;> try (cases ht; done)
    rename_i ms e i j hu hp hi hj
    simp only [Bool.and_eq_true,beq_iff_eq,bne_iff_ne] at ht
    obtain ⟨⟨rfl,hc⟩,hsz⟩:=ht
    obtain ⟨_,_,c,ty,hh⟩:=m.env.sent g hg
    obtain ⟨_,_,c',ty',hh'⟩:=m.env.sent g' hg'
    refine ⟨_, ?_,hK⟩
    by_cases e:g=g'
    · subst e
      exact vZ fun d=>by simpa [Env.E] using run_equalIn_iface_ptr_same w d _ hu hp hi hc hj
    · have hne : V.eb g ≠ V.eb g' := fun x => e (m.env.inj g g' hg hg' x)
      exact vZ fun d=>by simpa [Env.E,e] using run_equalIn_iface_ptr_other w d hu hp hi hc hj hsz hne hh hh'
  · have rx := rx.deep; have ry := ry.deep; cases rx; cases ry
    obtain ⟨ht,hK⟩:=h
    unfold jU at ht; split at ht <;> try (cases ht; done)
    rename_i hu
    exact ⟨_,zC4 hu _ _,hK⟩
  · have rx := rx.deep; have ry := ry.deep; cases rx; cases ry
    obtain ⟨ht,hK⟩:=h
    unfold jU at ht; split at ht <;> try (cases ht; done)
    rename_i hu
    exact ⟨_,zC4 hu _ _,hK⟩
  · have rx := rx.deep; have ry := ry.deep; cases rx; cases ry
    obtain ⟨ht,hK⟩:=h
    unfold jU at ht; split at ht <;> try (cases ht; done)
    rename_i hu
    exact ⟨_,zGK hu _ _,hK⟩
  · have rx := rx.deep; have ry := ry.deep; cases rx; cases ry
    obtain ⟨ht,hK⟩:=h
    unfold jU at ht; split at ht <;> try (cases ht; done)
    rename_i hu
    exact ⟨_,zJC hu,hK⟩
  · have ry := ry.deep; cases ry; cases rx
    obtain ⟨ht,hK⟩:=h
    unfold zDa at ht; split at ht <;> try (cases ht; done)
    rename_i hu
    exact ⟨_,zCI hu _,hK⟩
  · have ry := ry.deep; cases ry; cases rx
    obtain ⟨ht,hK⟩:=h
    unfold zDa at ht; split at ht <;> try (cases ht; done)
    rename_i hu
    exact ⟨_,zCI hu _,hK⟩
  · have ry := ry.deep; cases ry; cases rx
    obtain ⟨ht,hK⟩:=h
    unfold zDa at ht; split at ht <;> try (cases ht; done)
    rename_i hu
    exact ⟨_,zCI hu _,hK⟩
  · have rx := rx.deep; have ry := ry.deep; cases rx; cases ry
    obtain ⟨ht,hK⟩:=h
    unfold zDa at ht; split at ht <;> try (cases ht; done)
    rename_i hu
    exact ⟨_,zKE hu,hK⟩
  · cases rx; cases ry
    obtain ⟨ht,hK⟩:=h
    unfold wH at ht; split at ht <;> try (cases ht; done)
    rename_i hu
    exact ⟨_,kD hu _ _ _,hK⟩
  · cases ry
    obtain ⟨a,n,c,rfl⟩:∃ a n c,v=.slice (some a) n c:=by
      cases rx with
      | own b v hb=>cases v <;> simp only [Value.ownBlock] at hb <;> first | cases hb | (rename_i a n c; cases a with | none=>simp [Value.ownBlock] at hb | some a=>exact ⟨a,n,c,rfl⟩)
    obtain ⟨ht,hK⟩:=h
    unfold wH at ht; split at ht <;> try (cases ht; done)
    rename_i hu
    exact ⟨_,kD hu _ _ _,hK⟩
  · cases ry
    have rx:=rx.deep
    obtain ⟨ht,hK,hK'⟩:=h
    unfold wH at ht; split at ht <;> try (cases ht; done)
    rename_i hu
    cases rx with
    | empty a cap =>
      cases a with
      | none=>exact ⟨_,kD hu _ _ _,hK' rfl⟩
      | some a=>exact ⟨_,kD hu _ _ _,hK⟩
    | slice=>exact ⟨_,kD hu _ _ _,hK⟩
  · have ry := ry.deep; cases ry; cases rx
    obtain ⟨ht,hK⟩:=h
    unfold zF1 at ht; split at ht <;> try (cases ht; done)
    rename_i hu
    exact ⟨_,zHN hu _ _ _,hK⟩
  · have rx := rx.deep; have ry := ry.deep; cases rx; cases ry
    obtain ⟨ht,hK⟩:=h
    unfold zF1 at ht; split at ht <;> try (cases ht; done)
    rename_i hu
    exact ⟨_,zJD hu,hK⟩
  · exact h.elim
end
end Go.Aug

/-
  The abstract layer, part Y: keys of maps, and structs of plain cells: when two are equal; where a key stands in a map.
-/
namespace Go.Aug
def zF4 (P:Program) (t:TypeId):Option LK :=
  match P.underlying t with
  | some (.int k)=>some (.int k)
  | some .string=>some .str
  | some .bool=>some .bool
  | _=>none
def zCK (P:Program):Nat→List Field→Option (List LK)
  | _,[]=>some []
  | i,f::fs=>match zF4 P f.type,zCK P (i+1) fs with
    | some k,some l=>if f.name ≠ "_" ∧ f.offset=i then some (k::l) else none
    | _,_=>none
def keyK (P:Program) (t:TypeId):Option KS :=
  match P.underlying t with
  | some (.struct fs)=>if P.stoodInHeld t=false∧P.eqGuardType P.depth t=false then (zCK P 0 fs.toList).map .row else none
  | _=>(zF4 P t).map .one
def leq:D→D→Bool
  | .int _ a,.int _ b=>decide (a=b)
  | .str a,.str b=>decide (a=b)
  | .bool a,.bool b=>a == b
  | _,_=>false
def leqL:List D→List D→Bool
  | [],[]=>true
  | x::xs,y::ys=>leq x y && leqL xs ys
  | _,_=>false
def keq:D→D→Bool
  | .agg xs,.agg ys=>leqL xs ys
  | x,y=>leq x y
section
variable {P:Program} {w:World}
theorem zHX {k:LK} {x y:D} (hx:fits k x=true) (hy:fits k y=true):leq x y=true↔x=y:=by
  cases k <;> cases x <;> simp [fits] at hx <;> cases y <;> simp [fits] at hy
  · subst hx; subst hy; simp [leq]
  · simp [leq]
  · simp [leq]
theorem zIR:∀ {ks:List LK} {xs ys:List D},kS ks xs=true→kS ks ys=true→(leqL xs ys=true↔xs=ys)
  | [],[],[],_,_=>by simp [leqL]
  | k::ks,x::xs,y::ys,hx,hy=>by
    simp only [kS,Bool.and_eq_true] at hx hy
    simp [leqL,zHX hx.1 hy.1,zIR hx.2 hy.2]
  | [],_::_,_,h,_ | [],_,_::_,_,h | _::_,[],_,h,_ | _::_,_,[],_,h=>by simp [kS] at h
theorem zP1 {s:KS} {x y:D} (hx:vK s x=true) (hy:vK s y=true):keq x y=true↔x=y:=by
  cases s with
  | one k =>
    have:keq x y=leq x y:=by cases x <;> first | rfl | (cases k <;> simp [vK,fits] at hx)
    rw [this]; exact zHX hx hy
  | row ks =>
    cases x <;> simp [vK] at hx
    cases y <;> simp [vK] at hy
    simp [keq,zIR hx hy]
theorem zBr {t:TypeId} {k:LK} (ht:zF4 P t=some k) {x:D} (hx:fits k x=true):∃ d,P.underlying t=some d∧MapKept.IsKey d (leafV x):=by
  unfold zF4 at ht
  split at ht <;> cases ht
  · rename_i q hu; cases x <;> simp [fits] at hx; subst hx; exact ⟨_,hu,rfl⟩
  · rename_i hu; cases x <;> simp [fits] at hx; exact ⟨_,hu,trivial⟩
  · rename_i hu; cases x <;> simp [fits] at hx; exact ⟨_,hu,trivial⟩
theorem zHW {t:TypeId} {k:LK} (ht:zF4 P t=some k):(isAgg t).run P w=.ok false w:=by
  unfold zF4 at ht
  split at ht <;> cases ht <;> (rename_i hu; simp [isAgg,run_underlying hu])
theorem zEo {t:TypeId} {k:LK} (ht:zF4 P t=some k) {X:Array Value} {o:Nat} {v:Value} (h:X[o]?=some v):(part t X o).run P w=.ok v w:=by
  simp [part,zHW ht,h]
theorem zFq {t:TypeId} {k:LK} (ht:zF4 P t=some k) {x y:D} (hx:fits k x=true) (hy:fits k y=true) (d:Nat) :
    (Op.equalIn (d+1) t (leafV x) (leafV y)).run P w=.ok (leq x y) w:=by
  unfold zF4 at ht
  split at ht <;> cases ht <;> rename_i hu
  · rename_i q
    cases x <;> simp [fits] at hx; cases y <;> simp [fits] at hy
    subst hx; subst hy
    simp only [leafV]; rw [run_equalIn_int w d t _ _ _ _ hu]
    rfl
  · cases x <;> simp [fits] at hx; cases y <;> simp [fits] at hy
    simp only [leafV]; rw [run_equalIn_string w d t _ _ hu]
    congr 1
    simp only [leq]
    exact zCC _ _
  · cases x <;> simp [fits] at hx; cases y <;> simp [fits] at hy
    simp only [leafV]; rw [run_equalIn_bool' w d t _ _ hu]; try rfl
theorem zC7 {d:Nat} {X Y:Array Value}:∀ (fs:List Field) (i:Nat) {ks:List LK} (xs ys:List D),zCK P i fs=some ks→kS ks xs=true→kS ks ys=true →
    (∀ j (h:j < xs.length),X[i+j]?=some (leafV xs[j]))→(∀ j (h:j < ys.length),Y[i+j]?=some (leafV ys[j])) →
    (Op.eqFields (d+1) X Y fs).run P w=.ok (leqL xs ys) w
  | [],i,ks,xs,ys,hk,hx,hy,_,_=>by
    cases hk
    cases xs <;> simp [kS] at hx
    cases ys <;> simp [kS] at hy
    rfl
  | f::fs,i,ks,xs,ys,hk,hx,hy,hX,hY=>by
    simp only [zCK] at hk
    split at hk <;> try (cases hk; done)
    rename_i k l hl hr
    split at hk <;> cases hk
    rename_i hn
    cases xs with
    | nil=>simp [kS] at hx
    | cons x xs =>
      cases ys with
      | nil=>simp [kS] at hy
      | cons y ys =>
        simp only [kS,Bool.and_eq_true] at hx hy
        have ih:=zC7 (d:=d) (X:=X) (Y:=Y) fs (i+1) xs ys hr hx.2 hy.2 (fun j h=>by have:=hX (j+1) (by simpa using h); rw [show i+1+j=i+(j+1) by omega]; exact this)
          (fun j h=>by have:=hY (j+1) (by simpa using h); rw [show i+1+j=i+(j+1) by omega]; exact this)
        have h1:=zEo (P:=P) (w:=w) hl (X:=X) (o:=f.offset) (v:=leafV x) (by have:=hX 0 (by simp); simpa [hn.2] using this)
        have h2:=zEo (P:=P) (w:=w) hl (X:=Y) (o:=f.offset) (v:=leafV y) (by have:=hY 0 (by simp); simpa [hn.2] using this)
        simp only [Op.eqFields,hn.1,ne_eq,not_false_eq_true,if_true,Sem.run_bind,h1,h2,Result.andThen_ok,zFq hl hx.1 hy.1,leqL]
        cases leq x y <;> simp [ih]
theorem zEe (xs:List D) (j:Nat) (h:j < xs.length):((xs.map leafV).toArray)[0+j]?=some (leafV xs[j]):=by simp [h]
theorem zGZ {t:TypeId} {s:KS} (ht:keyK P t=some s) {x y:D} (hx:vK s x=true) (hy:vK s y=true) (d:Nat) :
    (Op.equalIn (d+2) t (keyV x) (keyV y)).run P w=.ok (keq x y) w:=by
  unfold keyK at ht
  split at ht
  · rename_i fs hu
    split at ht <;> try (cases ht; done)
    rename_i hp
    simp only [Option.map_eq_some_iff] at ht
    obtain ⟨ks,hk,rfl⟩:=ht
    cases x <;> simp [vK] at hx
    cases y <;> simp [vK] at hy
    have hf:P.fieldsOf t=fs:=by simp [Program.fieldsOf,hu]
    simp only [keyV,keq]
    rw [run_equalIn_struct w (d+1) t _ _ (by rw [hf]; exact hu) hp.1,hf]
    exact zC7 _ 0 _ _ hk hx hy (zEe _) (zEe _)
  · rename_i hne
    simp only [Option.map_eq_some_iff] at ht
    obtain ⟨k,hk,rfl⟩:=ht
    have e:∀ z,vK (.one k) z=true→keyV z=leafV z∧∀ y,keq z y=leq z y:=by
      intro z hz
      cases z <;> first | exact ⟨rfl,fun _=>rfl⟩ | (cases k <;> simp [vK,fits] at hz)
    rw [(e x hx).1,(e y hy).1,(e x hx).2]
    exact zFq hk hx hy (d+1)
theorem zC6 {em:Bool} {n:Nat} {X:Array Value}:∀ (fs:List Field) (i:Nat) {ks:List LK} (xs:List D),zCK P i fs=some ks→kS ks xs=true →
    (∀ j (h:j < xs.length),X[i+j]?=some (leafV xs[j])) →
    (forIn (m:=Sem) fs PUnit.unit (fun f _=>if f.name ≠ "_" then (do Instr.checkKey em (n+1) f.type (←part f.type X f.offset); pure (ForInStep.yield PUnit.unit)) else pure (ForInStep.yield PUnit.unit))).run P w=.ok PUnit.unit w
  | [],i,ks,xs,hk,hx,_=>by simp
  | f::fs,i,ks,xs,hk,hx,hX=>by
    simp only [zCK] at hk
    split at hk <;> try (cases hk; done)
    rename_i k l hl hr
    split at hk <;> cases hk
    rename_i hn
    cases xs with
    | nil=>simp [kS] at hx
    | cons x xs =>
      simp only [kS,Bool.and_eq_true] at hx
      have ih:=zC6 (em:=em) (n:=n) (X:=X) fs (i+1) xs hr hx.2 (fun j h=>by have:=hX (j+1) (by simpa using h); rw [show i+1+j=i+(j+1) by omega]; exact this)
      have h1:=zEo (P:=P) (w:=w) hl (X:=X) (o:=f.offset) (v:=leafV x) (by have:=hX 0 (by simp); simpa [hn.2] using this)
      obtain ⟨dd,hd,hkey⟩:=zBr hl hx.1
      have h2:=MapKept.run_checkKey (w:=w) hd hkey em n
      rw [List.forIn_cons]
      simp only [hn.1,ne_eq,not_false_eq_true,if_true,Sem.run_bind,h1,Result.andThen_ok,h2,Sem.run_pure]
      exact ih
theorem zGY {t:TypeId} {s:KS} (ht:keyK P t=some s) {x:D} (hx:vK s x=true) (em:Bool) (n:Nat):(Instr.checkKey em (n+2) t (keyV x)).run P w=.ok () w:=by
  unfold keyK at ht
  split at ht
  · rename_i fs hu
    split at ht <;> try (cases ht; done)
    simp only [Option.map_eq_some_iff] at ht
    obtain ⟨ks,hk,rfl⟩:=ht
    cases x <;> simp [vK] at hx
    rename_i cs
    have:=zC6 (P:=P) (w:=w) (em:=em) (n:=n) (X:=(cs.map leafV).toArray) fs.toList 0 cs hk hx (zEe _)
    unfold Instr.checkKey
    simp only [Sem.run_bind,run_underlying hu,Result.andThen_ok,keyV]
    rw [←Array.forIn_toList,this]
    rfl
  · simp only [Option.map_eq_some_iff] at ht
    obtain ⟨k,hk,rfl⟩:=ht
    have e:keyV x=leafV x:=by
      cases x <;> first | rfl | (cases k <;> simp [vK,fits] at hx)
    obtain ⟨dd,hd,hkey⟩:=zBr hk hx
    rw [e]
    exact MapKept.run_checkKey hd hkey em (n+1)
def midx:List (D×D)→D→Option Nat
  | [],_=>none
  | p::m,x=>if keq x p.1=true then some 0 else (midx m x).map (·+1)
def mget:List (D×D)→D→Option D
  | [],_=>none
  | p::m,x=>if keq x p.1=true then some p.2 else mget m x
def mput:List (D×D)→D→D→List (D×D)
  | [],x,y=>[(x,y)]
  | p::m,x,y=>if keq x p.1=true then (p.1,y)::m else p::mput m x y
theorem zEl:∀ {m:List (D×D)} {x:D} {j:Nat},midx m x=some j→∃ h:j < m.length,keq x m[j].1=true∧mget m x=some m[j].2∧∀ y,mput m x y=m.set j (m[j].1,y)
  | p::m,x,j,h=>by
    simp only [midx] at h
    split at h
    · rename_i e; cases h
      exact ⟨by simp,e,by simp [mget,e],fun y=>by simp [mput,e]⟩
    · rename_i e
      simp only [Option.map_eq_some_iff] at h
      obtain ⟨i,hi,rfl⟩:=h
      obtain ⟨h1,h2,h3,h4⟩:=zEl hi
      exact ⟨by simpa using h1,by simpa using h2,by simpa [mget,e] using h3,fun y=>by simp [mput,e,h4]⟩
theorem zEk:∀ {m:List (D×D)} {x:D},midx m x=none→mget m x=none∧∀ y,mput m x y=m++[(x,y)]
  | [],x,_=>⟨rfl,fun _=>rfl⟩
  | p::m,x,h=>by
    simp only [midx] at h
    split at h
    · cases h
    · rename_i e
      simp only [Option.map_eq_none_iff] at h
      obtain ⟨h1,h2⟩:=zEk h
      exact ⟨by simp [mget,e,h1],fun y=>by simp [mput,e,h2]⟩
theorem zD7 {t:TypeId} {s:KS} (ht:keyK P t=some s) {x:D} (hx:vK s x=true):∀ (es:List MapEntry) (m:List (D×D)) (i:Nat),es.length=m.length →
    (∀ j (h:j < es.length) (h':j < m.length),es[j].key=keyV m[j].1)→(∀ p ∈ m,vK s p.1=true) →
    (Instr.findAsking t (keyV x) es i).run P w=.ok ((midx m x).bind fun j=>(es[j]?).map fun e=>(i+j,e.val)) w
  | [],[],i,_,_,_=>rfl
  | e::es,p::m,i,hl,hk,hf=>by
    have h0:=hk 0 (by simp) (by simp)
    simp only [List.getElem_cons_zero] at h0
    have hq:(Op.equal t (keyV x) e.key).run P w=.ok (keq x p.1) w:=by
      rw [h0]; exact vZ fun d=>zGZ ht hx (hf p (by simp)) d
    have ih:=zD7 ht hx es m (i+1) (by simpa using hl) (fun j h h'=>hk (j+1) (by simpa using h) (by simpa using h')) (fun q hq=>hf q (by simp [hq]))
    simp only [Instr.findAsking,Sem.run_bind,hq,Result.andThen_ok,midx]
    cases keq x p.1
    · simp only [Bool.false_eq_true, if_false, ih]
      cases midx m x with
      | none=>rfl
      | some j=>simp [Nat.add_assoc,Nat.add_comm 1]
    · simp
theorem zII {d:TypeDesc} {k:LK} {x:D} (hd:∀ y,fits k y=true→MapKept.IsKey d (leafV y)) (hx:fits k x=true):∀ (es:List MapEntry) (m:List (D×D)) (i:Nat),es.length=m.length →
    (∀ j (h:j < es.length) (h':j < m.length),es[j].key=leafV m[j].1)→(∀ p ∈ m,fits k p.1=true) →
    Instr.findNow d (leafV x) es i=some ((midx m x).bind fun j=>(es[j]?).map fun e=>(i+j,e.val))
  | [],[],i,_,_,_=>rfl
  | e::es,p::m,i,hl,hk,hf=>by
    have h0:=hk 0 (by simp) (by simp)
    simp only [List.getElem_cons_zero] at h0
    have hp:=hf p (by simp)
    have hkx:∀ y,keq x y=leq x y:=by intro y; cases x <;> first | rfl | (cases k <;> simp [fits] at hx)
    have hq:Instr.sameNow d (leafV x) e.key=some (leq x p.1):=by
      rw [h0]
      obtain ⟨r,hr,hi⟩:=MapKept.sameNow_of_keys (hd x hx) (hd p.1 hp)
      rw [hr]
      congr 1
      have:leafV x=leafV p.1↔x=p.1:=by
        constructor
        · intro e
          cases k <;> cases x <;> simp [fits] at hx <;> (generalize p.1=z at hp e; cases z <;> simp [fits] at hp) <;> simp_all [leafV]
        · intro e; rw [e]
      rw [this,←zHX hx hp] at hi
      cases r <;> cases hh:leq x p.1 <;> simp_all
    have ih:=zII hd hx es m (i+1) (by simpa using hl) (fun j h h'=>hk (j+1) (by simpa using h) (by simpa using h')) (fun q hq=>hf q (by simp [hq]))
    simp only [Instr.findNow,hq,midx,hkx]
    cases leq x p.1
    · simp only [Bool.false_eq_true, if_false, ih]
      cases midx m x with
      | none=>rfl
      | some j=>simp [Nat.add_assoc,Nat.add_comm 1]
    · simp
theorem zIJ {t:TypeId} {s:KS} (ht:keyK P t=some s) {x:D} (hx:vK s x=true) (es:List MapEntry) (m:List (D×D)) (hl:es.length=m.length)
    (hk:∀ j (h:j < es.length) (h':j < m.length),es[j].key=keyV m[j].1) (hf:∀ p ∈ m,vK s p.1=true) :
    (Instr.findKey t (keyV x) es).run P w=.ok ((midx m x).bind fun j=>(es[j]?).map fun e=>(j,e.val)) w:=by
  have ask:=zD7 (w:=w) ht hx es m 0 hl hk hf
  simp only [Nat.zero_add] at ask
  unfold keyK at ht
  split at ht
  · rename_i fs hu
    simp only [Instr.findKey,Sem.run_bind,run_underlying hu,Result.andThen_ok]
    cases es with
    | nil =>
      cases m with
      | nil=>rfl
      | cons p m=>simp at hl
    | cons e es =>
      have:Instr.findNow (.struct fs) (keyV x) (e::es) 0=none:=by simp [Instr.findNow,Instr.sameNow]
      rw [this]
      exact ask
  · rename_i hne
    simp only [Option.map_eq_some_iff] at ht
    obtain ⟨k,hkk,rfl⟩:=ht
    have ev:∀ z,fits k z=true→keyV z=leafV z:=by
      intro z hz
      cases z <;> first | rfl | (cases k <;> simp [fits] at hz)
    obtain ⟨d,hd,_⟩:=zBr hkk hx
    have hd':∀ y,fits k y=true→MapKept.IsKey d (leafV y):=by
      intro y hy
      obtain ⟨d',h1,h2⟩:=zBr hkk hy
      rw [hd] at h1; cases h1; exact h2
    have:=zII hd' hx es m 0 hl (fun j h h'=>by rw [hk j h h',ev _ (hf _ (List.getElem_mem _))]) hf
    simp only [Nat.zero_add] at this
    simp only [Instr.findKey,Sem.run_bind,run_underlying hd,Result.andThen_ok,ev x hx,this]
    rfl
theorem zHo {k:LK} {x:D} (hx:fits k x=true) (n:Nat):Instr.sameBits n (leafV x) (leafV x)=true:=by
  cases k <;> cases x <;> simp [fits] at hx <;> cases n <;> simp [leafV,Instr.sameBits,beq_toListBytes]
theorem zOD {s:KS} {x:D} (hx:vK s x=true):Instr.sameBits 10000 (keyV x) (keyV x)=true:=by
  cases s with
  | one k =>
    have e:keyV x=leafV x:=by
      cases x <;> first | rfl | (cases k <;> simp [vK,fits] at hx)
    rw [e]; exact zHo hx _
  | row ks =>
    cases x <;> simp [vK] at hx
    rename_i cs
    simp only [keyV,Instr.sameBits,Bool.and_eq_true,beq_self_eq_true,true_and,List.all_eq_true,Prod.forall]
    intro a b hab
    have h2:∀ (ks:List LK) (l:List D),kS ks l=true→∀ a b,(a,b) ∈ (l.map leafV).zip (l.map leafV)→Instr.sameBits 9999 a b=true:=by
      intro ks l
      induction l generalizing ks with
      | nil=>intro _ a b h; simp at h
      | cons y l ih =>
        intro hf a b h
        cases ks with
        | nil=>simp [kS] at hf
        | cons k ks =>
          simp only [kS,Bool.and_eq_true] at hf
          simp only [List.map_cons,List.zip_cons_cons,List.mem_cons,Prod.mk.injEq] at h
          rcases h with ⟨rfl,rfl⟩ | h
          · exact zHo hf.1 _
          · exact ih ks hf.2 a b h
    exact h2 ks cs hx a b hab
end
section
variable {V:Env} {Z:Nat→Prop} {w:World}
theorem zI6 {k:LK} {x:D} (hx:fits k x=true) {v:Value} (r:RepD V w Z v x):v=leafV x:=by
  cases k <;> cases x <;> simp [fits] at hx <;> cases r <;> rfl
theorem zGc {s:KS} {x:D} (hx:vK s x=true) {v:Value} (r:RepD V w Z v x):v=keyV x:=by
  cases s with
  | one k =>
    have e:keyV x=leafV x:=by
      cases x <;> first | rfl | (cases k <;> simp [vK,fits] at hx)
    rw [e]; exact zI6 hx r
  | row ks =>
    cases x <;> simp [vK] at hx
    rename_i cs
    cases r with
    | agg cv _ hl h1 hr =>
      simp only [keyV]
      congr 2
      have h2:∀ (ks:List LK) (cs:List D) (cv:List Value),kS ks cs=true→cv.length=cs.length→(∀ j (h:j < cv.length) (h':j < cs.length),RepD V w Z cv[j] cs[j])→cv=cs.map leafV:=by
        intro ks cs
        induction cs generalizing ks with
        | nil=>intro cv _ hl _; simpa using hl
        | cons c cs ih =>
          intro cv hf hl hr
          cases ks with
          | nil=>simp [kS] at hf
          | cons k ks =>
            simp only [kS,Bool.and_eq_true] at hf
            cases cv with
            | nil=>simp at hl
            | cons u cv =>
              have h0:=zI6 hf.1 (hr 0 (by simp) (by simp))
              simp only [List.getElem_cons_zero] at h0
              rw [List.map_cons,h0,ih ks cv hf.2 (by simpa using hl) (fun j h h'=>hr (j+1) (by simpa using h) (by simpa using h'))]
      exact h2 ks cs cv hx hl hr
end
end Go.Aug

/-
  The abstract layer, part K: made slices, and one operation in one word.
-/
namespace Go.Aug
section
variable {P:Program} {V:Env} {N:Nat} {F:Nat→A} {Z:Nat→Prop} {H:Heap} {w:World}
def zKc:Value→Option D
  | .int k n=>some (.int k n)
  | .bool b=>some (.bool b)
  | .string s=>some (.str s)
  | .slice none 0 0=>some (.slice [])
  | .pointer none=>some (.raw (.pointer none))
  | .nilIface=>some (.raw .nilIface)
  | .nilFunc=>some (.raw .nilFunc)
  | _=>none
def zHB:List Value→Option (List D)
  | []=>some []
  | v::vs=>match zKc v,zHB vs with
    | some x,some xs=>some (x::xs)
    | _,_=>none
theorem zE6 {v:Value} {x:D} (h:zKc v=some x):RepD V w Z v x∧v.oneCell'=true:=by
  unfold zKc at h
  split at h <;> cases h
  · exact ⟨.int ..,rfl⟩
  · exact ⟨.bool ..,rfl⟩
  · exact ⟨.str ..,rfl⟩
  · exact ⟨.empty ..,rfl⟩
  · exact ⟨.raw _ rfl,rfl⟩
  · exact ⟨.raw _ rfl,rfl⟩
  · exact ⟨.raw _ rfl,rfl⟩
theorem zFN:∀ {vs:List Value} {xs:List D},zHB vs=some xs→vs.length=xs.length∧(∀ v ∈ vs,v.oneCell'=true)∧∀ j (h:j < vs.length) (h':j < xs.length),RepD V w Z vs[j] xs[j]
  | [],xs,h=>by simp [zHB] at h; subst h; simp
  | v::vs,xs,h=>by
    simp only [zHB] at h
    split at h
    · rename_i x ys hx hy
      cases h
      obtain ⟨h1,h2⟩:=zE6 (V:=V) (w:=w) (Z:=Z) hx
      obtain ⟨h3,h4,h5⟩:=zFN hy
      refine ⟨by simp [h3], ?_, ?_⟩
      · intro u hu
        rcases List.mem_cons.1 hu with rfl | hu
        · exact h2
        · exact h4 u hu
      · intro j hj hj'
        cases j with
        | zero=>exact h1
        | succ j=>exact h5 j (by simpa using hj) (by simpa using hj')
    · cases h
def zE5 (P:Program) (t:TypeId):Option D :=
  match P.info? t,yN P t with
  | some i,some (true,_)=>match i.zero with
    | some z=>(zHB z.cells.toList).map .agg
    | none=>none
  | some i,some (false,_)=>match i.zero with
    | some z=>zKc z
    | none=>none
  | _,_=>none
def zM (P:Program) (t:TypeId) (l c:A) (H:Heap) (K:A→Heap→Prop):Prop :=
  match P.underlying t with
  | some (.slice e)=>match P.info? e,zE5 P e with
    | some i,some zd=>0 < i.size∧zd.cells.length=i.size∧intA l fun n=>intA c fun m=>m=n∧0≤n∧n * i.bytes≤140737488355328∧0 < i.bytes ∧
      newV H fun b v=>K (.own b v) (upd H b (.arr e i.size v (List.replicate n.toNat zd)))
    | _,_=>False
  | _=>False
theorem zIq {t:TypeId} {i:TypeInfo} {zd:D} (hi:P.info? t=some i) (h:zE5 P t=some zd):∃ z,i.zero=some z∧z.cells.toList.length=zd.cells.length ∧
    (∀ v ∈ z.cells.toList,v.oneCell'=true)∧∀ j (h:j < z.cells.toList.length) (h':j < zd.cells.length),RepD V w Z z.cells.toList[j] zd.cells[j]:=by
  unfold zE5 at h
  split at h
  · rename_i i' _ hi' _
    rw [hi] at hi'; cases hi'
    split at h
    · rename_i z hz
      simp only [Option.map_eq_some_iff] at h
      obtain ⟨xs,hx,rfl⟩:=h
      exact ⟨z,hz,zFN hx⟩
    · cases h
  · rename_i i' _ hi' _
    rw [hi] at hi'; cases hi'
    split at h
    · rename_i z hz
      obtain ⟨h1,h2⟩:=zE6 (V:=V) (w:=w) (Z:=Z) h
      exact ⟨z,hz,zD2 h1⟩
    · cases h
  · cases h
theorem zDp {t:TypeId} {l c:A} {K:A→Heap→Prop} {v u:Value} (h:zM P t l c H K) (m:Mem V Z H w) (rl:RepA V w Z v l) (rc:RepA V w Z u c) :
    ∃ r y Z' H' w',(Instr.makeSlice t v u).run P w=.ok r w'∧RepA V w' Z' r y∧Mem V Z' H' w'∧Ext Z H w Z' H' w'∧K y H':=by
  unfold zM at h
  split at h
  · rename_i e hu
    split at h
    · rename_i i zd hi hz
      obtain ⟨hsz,hzl,h⟩:=h
      obtain ⟨k,n,rfl,h2⟩:=qH h rl
      clear h
      obtain ⟨k',n',rfl,rfl,h0,hb,hby,hK⟩:=qH h2 rc
      obtain ⟨n,rfl⟩:=Int.eq_ofNat_of_zero_le h0
      simp only [Int.toNat_natCast] at hK
      obtain ⟨z,hz1,hz2,hz3,hz4⟩:=zIq (V:=V) (w:=w) (Z:=Z) hi hz
      have hb':n * i.bytes≤140737488355328:=by
        have:((n * i.bytes:Nat):Int)≤140737488355328:=by simpa using hb
        omega
      obtain ⟨hm1,hm2⟩:=qS hb' hby
      have hzs:z.cells.size=i.size:=by rw [←Array.length_toList,hz2,hzl]
      obtain ⟨w',hr,hown,hgr⟩:=run_make_full (P:=P) w 0 t e i z i.size hu hi hz1 rfl k k' n (by rw [Nat.mul_comm]; omega) hm1 (Nat.zero_le _)
      have hu':∀ d ∈ List.replicate n zd,(D.cells d).length=i.size:=fun d hd=>by rw [List.eq_of_mem_replicate hd]; exact hzl
      have hfl:=xJ hu'
      rw [List.length_replicate] at hfl
      rcases hown.2 with ⟨hx,_⟩ | ⟨g,cap,cur,hv,h2,h3,h4,h5,h6,h7⟩
      · cases hx
      · simp only [Value.slice.injEq, Option.some.injEq, Addr.mk.injEq, true_and, and_true] at hv
        obtain ⟨rfl,rfl⟩:=hv
        have kk:Keeps Z w (Zp Z w.heap.size) w':=⟨hgr.size,fun b hb _=>hgr.block b hb (by simp),fun b hb hz h=>by rcases h with h | h; exact hz h; omega⟩
        have hmade:∀ j (hj:j < n * i.size),(madeCells z.cells (n * i.size)).toList[j]'(by simpa [size_madeCells] using hj)=z.cells.toList[j % i.size]'(by rw [Array.length_toList,hzs]; exact Nat.mod_lt _ hsz):=by
          intro j hj
          have:j % i.size < z.cells.size:=by rw [hzs]; exact Nat.mod_lt _ hsz
          simp only [madeCells,Array.getElem_toList,Array.getElem_map,Array.getElem_range,hzs]
          rw [getElem!_pos z.cells (j % i.size) this]
        have hobj:ObjRep V w' (Zp Z w.heap.size) w.heap.size (.arr e i.size (.slice (some ⟨w.heap.size,0,none⟩) (List.replicate n zd).length n) (List.replicate n zd)):=by
          rw [List.length_replicate]
          refine ⟨.inr rfl,hsz,hu',rfl,(madeCells z.cells (n * i.size)).toList,by rw [List.length_replicate]; exact ⟨hown.1,.inr ⟨_,_,cur,rfl,Nat.zero_le _,h3,h4,h5,h6,h7⟩⟩,by rw [hfl]; simp [size_madeCells], ?_, ?_⟩
          · intro x hx
            obtain ⟨j,hj,rfl⟩:=List.getElem_of_mem hx
            have hj':j < n * i.size:=by simpa [size_madeCells] using hj
            rw [hmade j hj']
            exact hz3 _ (List.getElem_mem _)
          · intro j hj hj'
            have hjn:j < n * i.size:=by rw [hfl] at hj'; exact hj'
            rw [hmade j hjn]
            obtain ⟨q,r,rfl,hr'⟩:∃ q r,j=q * i.size+r∧r < i.size:=⟨j / i.size,j % i.size,by rw [Nat.mul_comm]; exact (Nat.div_add_mod j _).symm,Nat.mod_lt _ hsz⟩
            have hq:q < n:=by
              refine Nat.lt_of_not_le fun hh=>?_
              have:=Nat.mul_le_mul_right i.size hh
              omega
            have hg:=jB hu' q r (by simpa using hq) hr'
            rw [List.getElem?_eq_getElem hj',List.getElem?_eq_getElem (by simp; omega),Option.some.injEq] at hg
            rw [hg]
            have hmod:(q * i.size+r) % i.size=r:=by rw [Nat.mul_comm,Nat.mul_add_mod]; exact Nat.mod_eq_of_lt hr'
            simp only [hmod,List.getElem_replicate]
            exact (hz4 r (by rw [hz2,hzl]; exact hr') (by omega)).keep kk
        refine ⟨_,.own w.heap.size _,Zp Z w.heap.size,upd H w.heap.size (.arr e i.size (.slice (some ⟨w.heap.size,0,none⟩) n n) (List.replicate n zd)),w',hr,.own _ _ rfl,⟨?_, ?_,m.env.keep kk, ?_⟩, ?_,hK _ _ m.fresh rfl⟩
        · intro b o hb
          by_cases e:b=w.heap.size
          · subst e; rw [zV] at hb; cases hb; simpa using hobj
          · rw [xI _ _ e] at hb
            exact (m.heap b o hb).keep kk fun hw=>⟨.inl (m.own b ⟨o,hb,hw⟩),hgr.block b (m.lt _ _ hb) (by simp)⟩
        · have : w.heap.size < w'.heap.size := (Array.getElem?_eq_some_iff.1 h3).1
          rintro b (hb | rfl)
          · have:=m.zlt b hb; omega
          · exact this
        · have : w.heap.size < w'.heap.size := (Array.getElem?_eq_some_iff.1 h3).1
          intro b o hb
          by_cases e:b=w.heap.size
          · subst e; exact this
          · rw [xI _ _ e] at hb; have:=m.lt _ _ hb; omega
        · refine ⟨hgr.os, hgr.tape, hgr.output, hgr.size, fun b hb _ => hgr.block b hb (by simp), ?_, fun b hb _ => .inl hb, ?_⟩
          · rintro b (hb | rfl)
            · exact .inl hb
            · exact .inr (Nat.le_refl _)
          · rintro b ⟨o, hb, hw⟩
            by_cases e:b=w.heap.size
            · exact .inr (by omega)
            · rw [xI _ _ e] at hb; exact .inl ⟨o,hb,hw⟩
    · exact h.elim
  · exact h.elim
def aBin (P:Program) (V:Env) (op:BinOp) (t:TypeId) (lit:Bool) (x y:A) (K:A→Prop):Prop :=
  match x,y with
  | .d (.int k a),.d (.int k' b)=>match op with
    | .shl | .shr=>zES op k a b K
    | _=>k=k'∧zCe op k a b K
  | .d (.str a),.d (.str b)=>zOJ op a b K
  | .d (.agg a),.d (.agg b)=>match keyK P t with
    | some (.row ks)=>kS ks a=true∧kS ks b=true∧match op with
      | .eql=>K (.d (.bool (leqL a b)))
      | .neq=>K (.d (.bool (!leqL a b)))
      | _=>False
    | _=>False
  | _,_=>(match x,y with
      | .d (.raw .nilIface),.d (.raw .nilIface)=>lit=true
      | .d (.agg _),_ | .agg _,_=>False
      | _,_=>True) ∧
    match op with
    | .eql=>aEq P V t x y fun b=>K (.d (.bool b))
    | .neq=>aEq P V t x y fun b=>K (.d (.bool !b))
    | _=>False
def jC:Operand→Bool
  | .const _=>true
  | _=>false
end
end Go.Aug

/-
  The abstract layer, part L: one operation, whatever it is.
-/
namespace Go.Aug
section
variable {P:Program} {V:Env} {N:Nat} {F:Nat→A} {Z:Nat→Prop} {H:Heap} {w:World}
theorem zQd {x:A} {v:Value} (r:RepA V w Z v x) (hx:match x with | .d (.agg _) | .agg _ | .undef=>False | _=>True):∀ c,v≠.agg c:=by
  rintro c rfl
  generalize hv:Value.agg c=v at r
  cases r with
  | d _ y rd =>
    cases rd with
    | agg=>exact hx
    | raw v h1=>subst hv; simp [Value.oneCell'] at h1
    | sent=>cases hv
    | _=>cases hv
  | undef=>exact hx
  | agg=>exact hx
  | own b v hb=>subst hv; simp [Value.ownBlock] at hb
  | _=>cases hv
theorem zEc {x:A} (r:RepA V w Z .nilIface x):x=.undef∨x=.d (.raw .nilIface):=by
  generalize hv:Value.nilIface=v at r
  cases r with
  | d _ y rd =>
    cases rd with
    | raw v h1=>subst hv; exact .inr rfl
    | sent=>cases hv
    | _=>cases hv
  | undef=>exact .inl rfl
  | own b v hb=>subst hv; simp [Value.ownBlock] at hb
  | _=>cases hv
theorem zHM {op:BinOp} {t:TypeId} {x y:Operand} {a b:Value} (ha:∀ c,a≠.agg c) (hn:a=.nilIface→b=.nilIface→(jC x || jC y)=true) :
    (eqGuard op t x y a b).run P w=.ok () w:=by
  have main:(match a,b with
      | .nilIface,.nilIface =>
        if (jC x || jC y)=true then pure () else do
          if ←Op.eqGuardIn Op.maxDepth t a b then unsupported (.noEntry "binop/eql: two nil values of an interface type with methods, neither of them the literal nil")
      | .agg _,.agg _=>do
        if !(←program).eqGuardType (←program).depth t then return
        if ←Op.eqGuardIn Op.maxDepth t a b then unsupported (.noEntry "binop/eql: two nil values of an interface type with methods, in a part of a struct or an array")
      | _,_=>(pure ():Sem Unit)).run P w=.ok () w:=by
    split
    · rw [if_pos (hn rfl rfl)]; rfl
    · exact absurd rfl (ha _)
    · rfl
  cases op <;> first
    | rfl
    | exact main
def Value.odd:Value→Bool
  | .int .. | .float .. | .complex .. | .string _=>false
  | _=>true
theorem zB7 {t:TypeId} {v u:Value} (h:Value.odd v=true):binOp .eql t v u=(do pure (.bool (←Op.equal t v u)):Sem Value):=by
  cases v <;> first | rfl | cases h
theorem zB8 {t:TypeId} {v u:Value} (h:Value.odd v=true):binOp .neq t v u=(do pure (.bool (!(←Op.equal t v u))):Sem Value):=by
  cases v <;> first | rfl | cases h
theorem zTl {x:A} {v:Value} (r:RepA V w Z v x) (hx:match x with | .d (.int ..) | .d (.str _) | .undef=>False | .d (.raw v)=>Value.odd v=true | _=>True):Value.odd v=true:=by
  cases r with
  | d _ y rd =>
    cases rd with
    | int=>exact hx.elim
    | str=>exact hx.elim
    | raw v h1=>exact hx
    | _=>rfl
  | undef=>exact hx.elim
  | own b v hb=>cases v <;> first | rfl | simp [Value.ownBlock] at hb
  | _=>rfl
theorem zJn {op:BinOp} {t:TypeId} {x y:Operand} {a b:A} {K:A→Prop} {v u:Value} (h:aBin P V op t (jC x || jC y) a b K) (m:Mem V Z H w) (ra:RepA V w Z v a) (rb:RepA V w Z u b) :
    Ans P V w Z (do eqGuard op t x y v u; binOp op t v u) K:=by
  have red:(∀ c,v≠.agg c)→(v=.nilIface→u=.nilIface→(jC x || jC y)=true)→Ans P V w Z (binOp op t v u) K→Ans P V w Z (do eqGuard op t x y v u; binOp op t v u) K:=by
    rintro h1 h2 ⟨r,z,hr,hz,hK⟩
    exact ⟨r,z,by rw [Sem.run_bind,zHM h1 h2]; exact hr,hz,hK⟩
  unfold aBin at h
  split at h
  · rename_i k n k' n'
    have ra:=ra.deep; have rb:=rb.deep
    cases ra; cases rb
    refine red (fun c e=>by cases e) (fun e=>by cases e) ?_
    split at h
    · exact zCB h
    · exact zCB h
    · obtain ⟨rfl, h⟩ := h
      exact zHR h
  · have ra := ra.deep; have rb := rb.deep
    cases ra; cases rb
    exact red (fun c e=>by cases e) (fun e=>by cases e) (zIk h)
  · rename_i ca cb
    split at h
    · rename_i ks hk
      obtain ⟨hfa,hfb,h⟩:=h
      have hk':=hk
      unfold keyK at hk'
      split at hk'
      · rename_i fs hu
        split at hk' <;> try (cases hk'; done)
        rename_i hp
        have ea:=zGc (s:=.row ks) (x:=.agg ca) hfa ra.deep
        have eb:=zGc (s:=.row ks) (x:=.agg cb) hfb rb.deep
        subst ea; subst eb
        have hq:(Op.equal t (keyV (.agg ca)) (keyV (.agg cb))).run P w=.ok (leqL ca cb) w:=vZ fun d=>zGZ (s:=.row ks) (x:=.agg ca) (y:=.agg cb) hk hfa hfb d
        have hg:∀ op,(eqGuard op t x y (keyV (.agg ca)) (keyV (.agg cb))).run P w=.ok () w:=fun op=>run_eqGuard_agg w op t x y _ _ hp.2
        split at h
        · refine ⟨.bool (leqL ca cb), _, ?_, .d _ _ (.bool _), h⟩
          rw [Sem.run_bind,hg,Result.andThen_ok,show keyV (.agg ca)=.agg (ca.map leafV).toArray from rfl,zB7 rfl,Sem.run_bind]
          rw [show keyV (.agg ca)=.agg (ca.map leafV).toArray from rfl] at hq
          rw [hq]; rfl
        · refine ⟨.bool (!leqL ca cb), _, ?_, .d _ _ (.bool _), h⟩
          rw [Sem.run_bind,hg,Result.andThen_ok,show keyV (.agg ca)=.agg (ca.map leafV).toArray from rfl,zB8 rfl,Sem.run_bind]
          rw [show keyV (.agg ca)=.agg (ca.map leafV).toArray from rfl] at hq
          rw [hq]; rfl
        · exact h.elim
      · rename_i hne
        simp only [Option.map_eq_some_iff] at hk'
        obtain ⟨_,_,hh⟩:=hk'
        cases hh
    · exact h.elim
  · obtain ⟨hg, h⟩ := h
    have key:∀ (K':Bool→Prop),aEq P V t a b K'→(∀ c,v≠.agg c)∧(v=.nilIface→u=.nilIface→(jC x || jC y)=true):=by
      intro K' he
      constructor
      · refine zQd ra ?_
        unfold aEq at he
        split at he <;> first | trivial | exact he.elim
      · rintro rfl rfl
        rcases zEc ra with rfl | rfl
        · simp [aEq] at he
        · rcases zEc rb with rfl | rfl
          · simp [aEq] at he
          · exact hg
    have odd:∀ (K':Bool→Prop),aEq P V t a b K'→Value.odd v=true:=by
      intro K' he
      refine zTl ra ?_
      unfold aEq at he
      split at he <;> first | trivial | rfl | exact he.elim
    split at h
    · obtain ⟨k1, k2⟩ := key _ h
      obtain ⟨r,hr,hK⟩:=zGz h m ra rb
      refine red k1 k2 ⟨.bool r,_, ?_,.d _ _ (.bool r),hK⟩
      rw [zB7 (odd _ h),Sem.run_bind,hr]
      rfl
    · obtain ⟨k1, k2⟩ := key _ h
      obtain ⟨r,hr,hK⟩:=zGz h m ra rb
      refine red k1 k2 ⟨.bool (!r),_, ?_,.d _ _ (.bool _),hK⟩
      rw [zB8 (odd _ h),Sem.run_bind,hr]
      rfl
    · exact h.elim
end
end Go.Aug

/-
  The abstract layer, part M: conversions, calls; what one operation asks, and that it is so.
-/
namespace Go.Aug
section
variable {P:Program} {V:Env} {N:Nat} {F:Nat→A} {Z:Nat→Prop} {H:Heap} {w:World}
def aUn (op:UnOp) (x:A) (K:A→Prop):Prop :=
  match op,x with
  | .neg,.d (.int k n)=>K (.d (.int k (k.wrap (0 - n))))
  | .xor,.d (.int k n)=>K (.d (.int k (bits .xor k (if k.signed then -1 else k.max) n)))
  | .not,.d (.bool b)=>K (.d (.bool (!b)))
  | _,_=>False
theorem zKn {op:UnOp} {x:A} {K:A→Prop} {v:Value} (h:aUn op x K) (r:RepA V w Z v x):Ans P V w Z (Op.unary op v) K:=by
  unfold aUn at h
  split at h
  · have r:=r.deep; cases r; exact ⟨_,_,rfl,.d _ _ (.int ..),h⟩
  · have r:=r.deep; cases r; exact ⟨_,_,rfl,.d _ _ (.int ..),h⟩
  · have r:=r.deep; cases r; exact ⟨_,_,rfl,.d _ _ (.bool ..),h⟩
  · exact h.elim
def byteD (b:UInt8):D:=.int .u8 b.toNat
def wK (P:Program) (src dst:TypeId) (x:A) (H:Heap) (K:A→Prop):Prop :=
  match P.underlying src,P.underlying dst with
  | some _,some (.int k)=>match x with
    | .d (.int _ n)=>K (.d (.int k (k.wrap n)))
    | _=>False
  | some .string,some .string=>match x with
    | .d (.str s)=>K (.d (.str s))
    | _=>False
  | some (.slice e),some .string=>match P.underlying e with
    | some (.int .u8)=>srcK H x fun es=>∃ bs:List UInt8,es=bs.map byteD∧K (.d (.str ⟨bs.toArray⟩))
    | _=>False
  | some .string,some (.slice e)=>match P.underlying e,x with
    | some (.int .u8),.d (.str s)=>K (.d (.slice (s.data.toList.map byteD)))
    | _,_=>False
  | _,_=>False
theorem uS (bs:List UInt8):flat (bs.map byteD)=bs.map byteD:=by
  induction bs with
  | nil=>rfl
  | cons b bs ih=>simp only [flat,List.map_cons,List.flatMap_cons] at ih ⊢; rw [ih]; rfl
theorem zKx (g:Value→ByteArray→Sem (ForInStep ByteArray)) (hg:∀ (n:Int) s,g (.int .u8 n) s=pure (.yield (s.push (UInt8.ofNat n.toNat)))) (bs:List UInt8) :
    ∀ (s:ByteArray) (vs:List Value),vs=bs.map (fun b=>Value.int .u8 b.toNat)→(forIn (m:=Sem) vs s g).run P w=.ok (bs.foldl ByteArray.push s) w:=by
  induction bs with
  | nil=>rintro s _ rfl; rfl
  | cons b bs ih =>
    rintro s _ rfl
    simp only [List.map_cons,List.forIn_cons,Sem.run_bind,hg,Sem.run_pure,Result.andThen_ok,List.foldl_cons]
    have e:UInt8.ofNat (((b.toNat:Nat):Int).toNat)=b:=by simp
    rw [e]
    exact ih _ _ rfl
theorem zJE (bs:List UInt8):∀ s:ByteArray,bs.foldl ByteArray.push s=⟨(s.data.toList++bs).toArray⟩:=by
  induction bs with
  | nil=>intro s; simp
  | cons b bs ih =>
    intro s
    rw [List.foldl_cons,ih]
    congr 1
    simp [ByteArray.push]
theorem Mem.more (m:Mem V Z H w) {w':World} (hos:w'.os=w.os) (htape:w'.tape=w.tape) (hout:w'.output=w.output) (hsize:w.heap.size≤w'.heap.size)
    (hblock:∀ k,k < w.heap.size→w'.heap[k]?=w.heap[k]?):Mem V Z H w'∧Ext Z H w Z H w'∧Keeps Z w Z w' :=
  have k:Keeps Z w Z w':=⟨hsize,fun b hb _=>hblock b hb,fun _ _ h=>h⟩
  ⟨⟨fun b o h=>(m.heap b o h).keep k fun hw=>⟨m.own b ⟨o,h,hw⟩,hblock b (m.lt _ _ h)⟩,fun b hb=>Nat.lt_of_lt_of_le (m.zlt b hb) hsize,m.env.keep k,fun b o h=>Nat.lt_of_lt_of_le (m.lt b o h) hsize⟩,
    ⟨hos,htape,hout,hsize,fun b hb _=>hblock b hb,fun _ h=>.inl h,fun _ h _=>h,fun _ h=>.inl h⟩,k⟩
theorem zIa (e:TypeId) (s:ByteArray):∃ (cap:Nat) (w':World) (cur:Array Value) (fz:Nat×Nat),s.size≤cap∧(Conv.stringToBytes e s).run P w=.ok (.slice (some ⟨w.heap.size,0,none⟩) s.size cap) w' ∧
    w'.os=w.os∧w'.tape=w.tape∧w'.output=w.output∧w.heap.size < w'.heap.size∧(∀ k,k < w.heap.size→w'.heap[k]?=w.heap[k]?) ∧
    w'.heap[w.heap.size]?=some (.cells cur e fz)∧∀ j (hj:j < s.data.size),cur[j]?=some (.int .u8 s.data[j].toNat):=by
  obtain ⟨cap,hcap,hch⟩:∃ cap,s.size≤cap∧(choose (.appendCap s.size 0 e)).run P w=.ok cap w.drew:=⟨grownCap w s.size 0 e,grownCap_ge w s.size 0 e,by simp [grownCap,Question.forced]⟩
  obtain ⟨cur,hcur⟩:∃ cur:Array Value,cur=(s.data.map fun b=>.int .u8 b.toNat)++Array.replicate (cap - s.size) (.int .u8 0):=⟨_,rfl⟩
  have hnew:=heap_alloc_new w.drew (.cells cur e)
  simp only [World.size_drew] at hnew
  have hsh:(w.drew.alloc (.cells cur e)).shape? w.heap.size=some (e,cur.size):=by simp only [World.shape?,hnew]
  refine ⟨cap,(w.drew.alloc (.cells cur e)).freeze ⟨w.heap.size,cur.size,none⟩ 1,cur,(cur.size,cur.size+1),hcap, ?_,rfl,rfl,rfl, ?_, ?_, ?_, ?_⟩
  · simp only [Conv.stringToBytes,Sem.run_bind,hch,Result.andThen_ok,←hcur,newRow,run_newObj,Sem.run_pure,World.size_drew,World.alloc_eq,markStringish,run_shape,hsh,run_freeze]
  · simp [World.freeze,World.alloc]
  · intro k hk
    have:=uP w.drew (.cells cur e) k hk
    simp only [World.freeze,Nat.one_ne_zero,if_false,Array.getElem?_modify]
    rw [if_neg (by omega),this]
    rfl
  · simp only [World.freeze, Nat.one_ne_zero, if_false, Array.getElem?_modify, if_true, hnew, Option.map_some, Option.some.injEq]
    rw [if_pos (by decide)]
  · intro j hj
    rw [hcur,Array.getElem?_append_left (by simpa using hj)]
    simp [Array.getElem?_eq_getElem hj]
theorem zHE {src dst:TypeId} {x:A} {K:A→Prop} {v:Value} (h:wK P src dst x H K) (m:Mem V Z H w) (r:RepA V w Z v x) :
    ∃ u y w',(convert src dst v).run P w=.ok u w'∧RepA V w' Z u y∧Mem V Z H w'∧Ext Z H w Z H w'∧K y:=by
  unfold wK at h
  split at h
  · rename_i d k hs hd
    split at h
    · have r := r.deep; cases r
      exact ⟨_,_,w,by simp [convert,run_underlying hs,run_underlying hd,Conv.intToInt],.d _ _ (.int ..),m,.refl ..,h⟩
    · exact h.elim
  · rename_i hs hd
    split at h
    · have r := r.deep; cases r
      exact ⟨_,_,w,by simp [convert,run_underlying hs,run_underlying hd],.d _ _ (.str ..),m,.refl ..,h⟩
    · exact h.elim
  · rename_i e hs hd
    split at h
    · rename_i he
      obtain ⟨es,⟨base,c,rfl,hsrc⟩,bs,rfl,hK⟩:=zFK h m r
      refine ⟨.string ⟨bs.toArray⟩,_,w, ?_,.d _ _ (.str ..),m,.refl ..,hK⟩
      simp only [List.length_map,convert,Sem.run_bind,run_underlying hs,run_underlying hd,run_underlying he,Result.andThen_ok]
      have fin:∀ (a:Addr) (news:List Value),news=bs.map (fun b=>Value.int .u8 b.toNat)→(∀ j u,news[j]?=some u→w.cell? (a.add j)=some u) →
          (Conv.bytesToString (.slice (some a) bs.length c)).run P w=.ok (.string ⟨bs.toArray⟩) w:=by
        intro a news hn hcell
        have hl:=run_loadCells_list (P:=P) w a news hcell
        have hlen:news.length=bs.length:=by simp [hn]
        rw [hlen] at hl
        simp only [Conv.bytesToString,Sem.run_bind,hl,Result.andThen_ok,List.forIn_toArray]
        rw [zKx (P:=P) (w:=w) _ (fun _ _=>rfl) bs ByteArray.empty news hn]
        simp only [Result.andThen_ok,Sem.run_pure,zJE]
        rfl
      rcases hsrc with hb | ⟨a,news,rfl,hnl,hcell,h1,hrep⟩
      · have hb : bs = [] := by simpa using hb
        subst hb
        cases base with
        | none=>rfl
        | some a=>exact fin a [] rfl (by simp)
      · refine fin a news ?_ hcell
        apply List.ext_getElem
        · rw [hnl,uS]; simp
        · intro j hj hj'
          have:=hrep j hj (by rw [uS]; simpa using hj')
          simp only [uS,List.getElem_map,byteD] at this
          generalize news[j]=u at this
          cases this
          simp
    · exact h.elim
  · rename_i e hs hd
    split at h
    · rename_i s he
      have r:=r.deep; cases r
      obtain ⟨cap,w',cur,fz,hcap,hrun,hos,htape,hout,hsize,hblock,hnew,hcur⟩:=zIa (P:=P) (w:=w) e s
      obtain ⟨m',x',k⟩:=m.more hos htape hout (Nat.le_of_lt hsize) hblock
      have hl:s.size=(s.data.toList.map byteD).length:=by simp
      refine ⟨.slice (some ⟨w.heap.size,0,none⟩) (s.data.toList.map byteD).length cap,_,w', ?_,.d _ _ (.slice w.heap.size 0 cap _ 1 (fun j=>cur.getD j undef) (by omega) ?_ hsize ?_ ?_ ?_ ?_),m',x',h⟩
      · rw [←hl]; simp [convert,run_underlying hs,run_underlying hd,run_underlying he,hrun]
      · intro hz; have:=m.zlt _ hz; omega
      · intro d hd'; simp only [List.mem_map] at hd'; obtain ⟨b,_,rfl⟩:=hd'; rfl
      · intro j hj
        rw [uS] at hj
        have:=hcur j (by simpa using hj)
        simp [World.cell?,hnew,this]
      · intro j hj
        rw [uS] at hj
        have:=hcur j (by simpa using hj)
        simp [this,Value.oneCell']
      · intro j hj
        have hj':=hj
        rw [uS] at hj'
        have:=hcur j (by simpa using hj')
        simp only [uS,List.getElem_map,byteD]
        simp only [Array.getD_eq_getD_getElem?,this,Option.getD_some]
        simpa using RepD.int (V:=V) (w:=w') (Z:=Z) .u8 _
    · exact h.elim
  · exact h.elim
def zEQ (P:Program) (s d:TypeId):Bool:=(s == d) && match P.underlying s with
  | some (.slice e)=>isU8 P e
  | _=>false
def zKk (x:A) (H:Heap) (K:A→Heap→Prop):Prop:=match x with
  | .own b v=>match H b with
    | some (.arr _ _ v' ds)=>v'=v∧K (.own b v) (upd H b (.frz v ds))
    | _=>False
  | _=>False
theorem zHG {s d:TypeId} {x:A} {K:A→Heap→Prop} {v:Value} (h:zKk x H K) (hs:zEQ P s d=true) (m:Mem V Z H w) (r:RepA V w Z v x) :
    ∃ u y Z' H' w',(convert s d v).run P w=.ok u w'∧RepA V w' Z' u y∧Mem V Z' H' w'∧Ext Z H w Z' H' w'∧K y H':=by
  simp only [zEQ,Bool.and_eq_true,beq_iff_eq] at hs
  obtain ⟨rfl,hs⟩:=hs
  split at hs
  · rename_i e hu
    unfold isU8 at hs
    split at hs
    · rename_i hue
      cases r with
      | own b v hb =>
        simp only [zKk] at h
        split at h
        · rename_i E sz v' ds hH
          obtain ⟨rfl,hK⟩:=h
          have hob:=m.heap b _ hH
          obtain ⟨cap,cur,hv,hh,h4,h5,h6,h0,hun,hlf,h1c,hrc⟩:=zAs hob
          have hsh:w.shape? b=some (E,cur.size):=by simp only [World.shape?,hh]
          have hzb:Z b:=hob.1
          have hother:∀ k,k≠b→(w.freeze ⟨b,cur.size,none⟩ 1).heap[k]?=w.heap[k]?:=by
            intro k hk
            simp only [World.freeze,Nat.one_ne_zero,if_false,Array.getElem?_modify]
            rw [if_neg (fun e=>hk e.symm)]
          have hself:∃ fr,(w.freeze ⟨b,cur.size,none⟩ 1).heap[b]?=some (.cells cur E fr):=by
            simp only [World.freeze,Nat.one_ne_zero,if_false,Array.getElem?_modify,if_true,hh,Option.map_some]
            rw [if_pos (by decide)]
            exact ⟨_,rfl⟩
          obtain ⟨fr,hself⟩:=hself
          have hsize:(w.freeze ⟨b,cur.size,none⟩ 1).heap.size=w.heap.size:=by simp [World.freeze]
          have k:Keeps Z w (fun k=>Z k∧k≠b) (w.freeze ⟨b,cur.size,none⟩ 1) :=
            ⟨by rw [hsize]; exact Nat.le_refl _,fun k _ hz=>hother k (fun e=>hz (e ▸ hzb)),fun _ _ hz hz'=>hz hz'.1⟩
          have hrep:RepD V (w.freeze ⟨b,cur.size,none⟩ 1) (fun k=>Z k∧k≠b) v' (.slice ds):=by
            rw [hv]
            have hlen:∀ j,j < (flat ds).length→j < (cur.toList.take (ds.length * sz)).length:=fun j hj=>by rw [hlf]; exact hj
            refine .slice b 0 cap ds sz (fun j=>(cur.toList.take (ds.length * sz)).getD j undef) h4 (fun x=>x.2 rfl) (by rw [hsize]; exact m.lt _ _ hH) hun ?_ ?_ ?_
            · intro j hj
              have h7:=hlen j hj
              simp only [List.getD,List.getElem?_eq_getElem h7,Option.getD_some,World.cell?,hself,Nat.zero_add]
              have h8:j < cur.size:=by simp only [List.length_take,Array.length_toList] at h7; omega
              simp [List.getElem_take,h8]
            · intro j hj
              simp only [List.getD,List.getElem?_eq_getElem (hlen j hj),Option.getD_some]
              exact h1c _ (List.getElem_mem _)
            · intro j hj
              simp only [List.getD,List.getElem?_eq_getElem (hlen j hj),Option.getD_some]
              exact (hrc j (hlen j hj) hj).keep k
          refine ⟨v',.own b v',fun k=>Z k∧k≠b,upd H b (.frz v' ds),w.freeze ⟨b,cur.size,none⟩ 1, ?_,.own b v' hb,⟨?_, ?_,m.env.keep k, ?_⟩, ?_,hK⟩
          · rw [hv]
            simp only [convert,Sem.run_bind,run_underlying hu,run_underlying hue,Result.andThen_ok,beq_self_eq_true,markStringish,run_shape,hsh,run_freeze,Sem.run_pure]
          · intro k' o ho
            by_cases e:k'=b
            · subst e; rw [zV] at ho; cases ho; exact ⟨hrep,fun x=>x.2 rfl,_,_,_,hself⟩
            · rw [xI _ _ e] at ho
              exact (m.heap k' o ho).keep k fun hw=>⟨⟨m.own k' ⟨o,ho,hw⟩,e⟩,hother k' e⟩
          · intro k' hk'; rw [hsize]; exact m.zlt k' hk'.1
          · intro k' o ho
            rw [hsize]
            by_cases e:k'=b
            · subst e; exact m.lt _ _ hH
            · rw [xI _ _ e] at ho; exact m.lt _ _ ho
          · refine ⟨rfl, rfl, rfl, by rw [hsize]; exact Nat.le_refl _, fun k' _ hk' => hother k' (fun e => hk' (e ▸ ⟨_, hH, rfl⟩)), fun k' hk' => .inl hk'.1, fun k' hk' ho => ⟨hk', fun e => ho (e ▸ ⟨_, hH, rfl⟩)⟩, ?_⟩
            rintro k' ⟨o,ho,hw⟩
            by_cases e:k'=b
            · subst e; rw [zV] at ho; cases ho; simp [AObj.owns] at hw
            · rw [xI _ _ e] at ho; exact .inl ⟨o,ho,hw⟩
        · exact h.elim
      | _=>simp [zKk] at h
    · cases hs
  · cases hs
end
end Go.Aug

/-
  The abstract layer, part Z: owned maps: they are made, asked, written.
-/
namespace Go.Aug
def zJl (P:Program) (t:TypeId):Option D:=match P.info? t with
  | some i=>match i.zero with
    | some z=>zKc z
    | none=>none
  | none=>none
def zKP (P:Program) (t:TypeId):Option (KS×D):=match P.underlying t with
  | some (.map k e)=>match keyK P k,zJl P e with
    | some s,some z=>some (s,z)
    | _,_=>none
  | _=>none
def yA (P:Program) (t:TypeId) (H:Heap) (K:A→Heap→Prop):Prop:=match zKP P t with
  | some f=>newK H fun b=>K (.mp b) (upd H b (.map f.1 []))
  | none=>False
def gotA (ok:Bool) (z:D) (o:Option D):A:=match ok with
  | true=>.tup [.d (o.getD z),.d (.bool o.isSome)]
  | false=>.d (o.getD z)
def yK (P:Program) (t:TypeId) (x y:A) (ok:Bool) (H:Heap) (K:A→Prop):Prop:=match zKP P t with
  | some f=>match x,y with
    | .mp b,.d k=>match H b with
      | some (.map s m)=>vK s k=true∧s=f.1∧K (gotA ok f.2 (mget m k))
      | _=>False
    | _,_=>False
  | none=>False
def zQ (P:Program) (t:TypeId) (x y v:A) (H:Heap) (K:Heap→Prop):Prop:=match zKP P t with
  | some f=>match x,y with
    | .mp b,.d k=>xG H v fun d H=>match H b with
      | some (.map s m)=>vK s k=true∧s=f.1∧K (upd H b (.map s (mput m k d)))
      | _=>False
    | _,_=>False
  | none=>False
set_option linter.unusedSimpArgs false
section
variable {P:Program} {V:Env} {Z:Nat→Prop} {H:Heap} {w:World}
theorem zG3 {t:TypeId} {f:KS×D} (h:zKP P t=some f):∃ k e z,P.underlying t=some (.map k e)∧keyK P k=some f.1∧zKc z=some f.2∧∀ w,(zeroValue e).run P w=.ok z w:=by
  unfold zKP at h
  split at h <;> try (cases h; done)
  rename_i k e hu
  split at h <;> cases h
  rename_i s zd hs hz
  unfold zJl at hz
  split at hz <;> try (cases hz; done)
  rename_i i hi
  split at hz <;> try (cases hz; done)
  rename_i z hiz
  exact ⟨k,e,z,hu,hs,hz,fun w=>by simp [zeroValue,typeInfo,hi,hiz]⟩
theorem zFa {t:TypeId} {K:A→Heap→Prop} (h:yA P t H K) (m:Mem V Z H w) :
    ∃ u y Z' H' w',(Instr.makeMap t none).run P w=.ok u w'∧RepA V w' Z' u y∧Mem V Z' H' w'∧Ext Z H w Z' H' w'∧K y H':=by
  unfold yA at h
  split at h
  · rename_i f hf
    have ho:ObjRep V (w.alloc (.map #[] 0)) (Zp Z w.heap.size) w.heap.size (.map f.1 []) :=
      ⟨.inr rfl,by simp,#[],0,heap_alloc_new w _,rfl,fun j h=>by simp at h⟩
    obtain ⟨m',x'⟩:=m.alloc (.map #[] 0) (.map f.1 []) ho
    refine ⟨.map (some w.heap.size),.mp w.heap.size,_,_,_, ?_,.mp _,m',x',h _ m.fresh⟩
    rfl
  · exact h.elim
theorem zKQ {b:Nat} {s:KS} {m:List (D×D)} (hb:ObjRep V w Z b (.map s m)):∃ es clock,w.heap[b]?=some (.map es clock)∧es.size=m.length∧(∀ p ∈ m,vK s p.1=true) ∧
    (∀ j (h:j < es.toList.length) (h':j < m.length),es.toList[j].key=keyV m[j].1)∧∀ j (h:j < es.toList.length) (h':j < m.length),RepD V w Z es.toList[j].val m[j].2:=by
  obtain ⟨_,hf,es,clock,hh,hl,hr⟩:=hb
  exact ⟨es,clock,hh,hl,hf,fun j h h'=>by simpa using (hr j (by simpa using h) h').1,fun j h h'=>by simpa using (hr j (by simpa using h) h').2⟩
theorem zFR {t:TypeId} {x y:A} {ok:Bool} {K:A→Prop} {v u:Value} (h:yK P t x y ok H K) (m:Mem V Z H w) (rx:RepA V w Z v x) (ry:RepA V w Z u y) :
    Ans P V w Z (Instr.lookup t v u ok) K:=by
  unfold yK at h
  split at h
  · rename_i f hf
    split at h
    · rename_i b k
      split at h
      · rename_i s l hb
        obtain ⟨hk,rfl,hK⟩:=h
        cases rx
        obtain ⟨kt,e,z,hu,hs,hz,hz'⟩:=zG3 hf
        obtain ⟨es,clock,hh,hl,hfit,hkey,hval⟩:=zKQ (m.heap b _ hb)
        have hv:=zGc hk ry.deep
        subst hv
        have hfind:=zIJ (P:=P) (w:=w) hs hk es.toList l (by simpa using hl) hkey hfit
        have hget:(getObj b).run P w=.ok (.map es clock) w:=MapKept.run_getObj_map hh
        have hchk:∀ em,(Instr.checkKey em 10000 kt (keyV k)).run P w=.ok () w:=fun em=>zGY hs hk em 9998
        have rz:=(zE6 (V:=V) (w:=w) (Z:=Z) hz).1
        cases hi:midx l k with
        | none =>
          rw [hi] at hfind
          obtain ⟨hg,_⟩:=zEk hi
          rw [hg] at hK
          simp only [gotA,Option.getD_none,Option.getD_some,Option.isSome_none,Option.isSome_some] at hK
          simp only [Option.bind_none] at hfind
          cases ok
          · refine ⟨z, .d f.2, ?_, .d _ _ rz, by simpa using hK⟩
            simp [Instr.lookup,run_underlying hu,hget,hchk,hfind,hz']
          · refine ⟨.tuple #[z, .bool false], .tup [.d f.2, .d (.bool false)], ?_, .tup [z, .bool false] _ rfl ?_, by simpa using hK⟩
            · simp [Instr.lookup,run_underlying hu,hget,hchk,hfind,hz']
            · intro j hj hj'
              simp only [List.length_cons,List.length_nil] at hj
              rcases (by omega:j=0∨j=1) with rfl | rfl
              · exact .d _ _ rz
              · exact .d _ _ (.bool _)
        | some j =>
          obtain ⟨hj,_,hg,_⟩:=zEl hi
          have hj2:j < es.toList.length:=by simpa [hl] using hj
          rw [hi] at hfind
          simp only [Option.bind_some,List.getElem?_eq_getElem hj2,Option.map_some] at hfind
          rw [hg] at hK
          simp only [gotA,Option.getD_none,Option.getD_some,Option.isSome_none,Option.isSome_some] at hK
          have rv:=hval j hj2 hj
          cases ok
          · refine ⟨_, .d l[j].2, ?_, .d _ _ rv, by simpa using hK⟩
            simp [Instr.lookup,run_underlying hu,hget,hchk,hfind]
          · refine ⟨.tuple #[es.toList[j].val, .bool true], .tup [.d l[j].2, .d (.bool true)], ?_, .tup [es.toList[j].val, .bool true] _ rfl ?_, by simpa using hK⟩
            · simp [Instr.lookup,run_underlying hu,hget,hchk,hfind]
            · intro i hi hi'
              simp only [List.length_cons,List.length_nil] at hi
              rcases (by omega:i=0∨i=1) with rfl | rfl
              · exact .d _ _ rv
              · exact .d _ _ (.bool _)
      · exact h.elim
    · exact h.elim
  · exact h.elim
theorem zDq {t:TypeId} {x y z:A} {K:Heap→Prop} {v u c:Value} (h:zQ P t x y z H K) (m:Mem V Z H w) (rx:RepA V w Z v x) (ry:RepA V w Z u y) (rz:RepA V w Z c z) :
    ∃ Z' H' w',(Instr.mapUpdate t v u c).run P w=.ok () w'∧Mem V Z' H' w'∧Ext Z H w Z' H' w'∧K H':=by
  unfold zQ at h
  split at h
  · rename_i f hf
    split at h
    · rename_i b k
      obtain ⟨d,H1,Z1,rd,m1,x1,h⟩:=jS z h m rz
      split at h
      · rename_i s l hb
        obtain ⟨hk,rfl,hK⟩:=h
        cases rx
        obtain ⟨kt,e,z,hu,hs,hz,hz'⟩:=zG3 hf
        have hob:=m1.heap b _ hb
        obtain ⟨es,clock,hh,hl,hfit,hkey,hval⟩:=zKQ hob
        have hv:=zGc hk ry.deep
        subst hv
        have hfind:=zIJ (P:=P) (w:=w) hs hk es.toList l (by simpa using hl) hkey hfit
        have hget:(getObj b).run P w=.ok (.map es clock) w:=MapKept.run_getObj_map hh
        have hchk:∀ em,(Instr.checkKey em 10000 kt (keyV k)).run P w=.ok () w:=fun em=>zGY hs hk em 9998
        have hset:∀ o:Obj,(setObj b o).run P w=.ok () { w with heap:=w.heap.setIfInBounds b o }:=fun o=>MapKept.run_setObj_map o hh
        have main:∀ (es':Array MapEntry) (clock':Nat),es'.size=(mput l k d).length →
            (∀ j (h:j < es'.size) (h':j < (mput l k d).length),es'[j].key=keyV (mput l k d)[j].1∧RepD V w Z1 es'[j].val (mput l k d)[j].2)→(∀ p ∈ mput l k d,vK f.1 p.1=true) →
            (Instr.mapUpdate t (.map (some b)) (keyV k) c).run P w=.ok () { w with heap:=w.heap.setIfInBounds b (.map es' clock') } →
            ∃ Z' H' w',(Instr.mapUpdate t (.map (some b)) (keyV k) c).run P w=.ok () w'∧Mem V Z' H' w'∧Ext Z H w Z' H' w'∧K H':=by
          intro es' clock' hl' hr' hf' hrun
          obtain ⟨hs1,hs2⟩:=MapKept.heap_set (w:=w) (r:=b) (o:=.map es clock) (o':=.map es' clock') hh
          obtain ⟨m2,x2,_⟩:=m1.set (b:=b) (o:=.map f.1 l) (o':=.map f.1 (mput l k d)) (w':={ w with heap:=w.heap.setIfInBounds b (.map es' clock') }) hb rfl rfl rfl rfl (by simp) hs2
            (fun kk=>⟨m1.own b ⟨_,hb,rfl⟩,hf',es',clock',hs1,hl',fun j h h'=>⟨(hr' j h h').1,(hr' j h h').2.keep kk⟩⟩)
          exact ⟨Z1,_,_,hrun,m2,x1.trans m.zlt x2,hK⟩
        cases hi:midx l k with
        | none =>
          rw [hi] at hfind
          simp only [Option.bind_none] at hfind
          obtain ⟨_,hput⟩:=zEk hi
          refine main (es.push { key:=keyV k,val:=c,born:=clock }) (clock+1) ?_ ?_ ?_ ?_
          · rw [hput]; simp [hl]
          · rw [hput]
            intro j h h'
            by_cases hlt:j < es.size
            · rw [Array.getElem_push_lt hlt, List.getElem_append_left (by omega)]
              exact ⟨hkey j (by simpa using hlt) (by omega),hval j (by simpa using hlt) (by omega)⟩
            · have : j = es.size := by simp at h; omega
              subst this
              rw [Array.getElem_push_eq,List.getElem_append_right (by omega)]
              simp only [hl,Nat.sub_self,List.getElem_cons_zero]
              exact ⟨trivial,rd⟩
          · rw [hput]
            intro p hp
            rcases List.mem_append.1 hp with hp | hp
            · exact hfit p hp
            · simp only [List.mem_singleton] at hp; subst hp; exact hk
          · simp [Instr.mapUpdate,run_underlying hu,hget,hchk,hfind,hset]
        | some j =>
          obtain ⟨hj,he,_,hput⟩:=zEl hi
          have hj2:j < es.toList.length:=by simpa [hl] using hj
          have hj3:j < es.size:=by simpa using hj2
          rw [hi] at hfind
          simp only [Option.bind_some,List.getElem?_eq_getElem hj2,Option.map_some] at hfind
          have hkk:k=l[j].1:=(zP1 hk (hfit _ (List.getElem_mem hj))).1 he
          have hkj:es[j].key=keyV k:=by rw [hkk]; simpa using hkey j hj2 hj
          have hstay:(Instr.keyThatStays (keyV k) (keyV k)).run P w=.ok (keyV k) w:=by simp [Instr.keyThatStays,zOD hk]
          refine main (es.modify j fun e=>{ e with key:=keyV k,val:=c }) clock ?_ ?_ ?_ ?_
          · rw [hput]; simp [hl]
          · rw [hput]
            intro i h h'
            rw [Array.getElem_modify,List.getElem_set]
            by_cases e:j=i
            · subst e
              simp only [if_true]
              exact ⟨by rw [←hkk],rd⟩
            · simp only [e, if_false]
              have hi2:i < es.size:=by simpa using h
              exact ⟨hkey i (by simpa using hi2) (by omega),hval i (by simpa using hi2) (by omega)⟩
          · rw [hput]
            intro p hp
            rcases List.mem_or_eq_of_mem_set hp with hp | rfl
            · exact hfit p hp
            · exact hfit l[j] (List.getElem_mem hj)
          · simp [Instr.mapUpdate,run_underlying hu,hget,hchk,hfind,hset,hj3,hkj,hstay]
      · exact h.elim
    · exact h.elim
  · exact h.elim
end
end Go.Aug

/-
  The abstract layer: a string's bytes are put behind a row of bytes.
-/
namespace Go.Aug
def zHD (P:Program) (t t':TypeId) (x y:A) (H:Heap) (K:A→Heap→Prop):Prop:=match P.underlying t',y with
  | some .string,.d (.str s)=>yF P t x (.d (.slice (s.data.toList.map byteD))) H K
  | _,_=>False
section
variable {P:Program} {V:Env} {Z:Nat→Prop} {H:Heap} {w:World}
theorem zDJ (t t' ty e:TypeId) (i:TypeInfo) (hu:P.underlying t=some (.slice e)) (hut:P.underlying t'=some .string) (hi:P.info? e=some i) (s:ByteArray) (hs:s.size=0) (b:Option Addr) (n c:Nat) (hn:n≤c) :
    (Builtin.append_ #[t,t'] ty #[.slice b n c,.string s]).run P w=.ok (.slice b n c) w:=by
  cases b with
  | none=>simp [Builtin.append_,run_underlying hu,run_underlying hut,sizeOf,typeInfo,hi,Builtin.lenOf,hs,hn,Builtin.firstCells]
  | some a=>simp [Builtin.append_,run_underlying hu,run_underlying hut,sizeOf,typeInfo,hi,Builtin.lenOf,hs,hn,Builtin.firstCells,storeCells]
theorem zHs (s:ByteArray):(Lib.strCells s).toArray=s.data.map (fun b=>Value.int .u8 b.toNat):=by
  apply Array.ext'; simp [Lib.strCells]
theorem zQ8 (w:World) (t t' ty e:TypeId) (i:TypeInfo) (z:Value) (hu:P.underlying t=some (.slice e)) (hut:P.underlying t'=some .string) (hi:P.info? e=some i) (hz:i.zero=some z)
    (s:ByteArray) {n:Nat} (hn:s.size=n) {news:List Value} (hne:news=Lib.strCells s) (h0:0 < n) (h63:(n:Int)≤9223372036854775807) (h48:n * i.bytes≤281474976710656) :
    (Builtin.append_ #[t,t'] ty #[.slice none 0 0,.string s]).run P w =
      .ok (.slice (some ⟨w.heap.size,0,none⟩) n (grownCap w n 0 e)) (w.drew.alloc (.cells (news.toArray++Builtin.zeroCells z.cells (grownCap w n 0 e - n)) e)):=by
  subst hn hne
  rw [run_append_nil_string w t t' ty e i z hu hut hi hz s h0 h63 h48,zHs]
theorem zOK (w:World) (t t' ty e:TypeId) (i:TypeInfo) (hu:P.underlying t=some (.slice e)) (hut:P.underlying t'=some .string) (hi:P.info? e=some i) (hs1:i.size=1)
    (g sLen sCap:Nat) (cur:Array Value) (hg:w.heap[g]?=some (.cells cur e (0,0))) (s:ByteArray) {n:Nat} (hn:s.size=n) {news:List Value} (hne:news=Lib.strCells s)
    (hroom:sLen+n≤sCap) (hfit:sLen+n≤cur.size) :
    (Builtin.append_ #[t,t'] ty #[.slice (some ⟨g,0,none⟩) sLen sCap,.string s]).run P w =
      .ok (.slice (some ⟨g,0,none⟩) (sLen+n) sCap) (w.setRow g (cur.toList.take (sLen * i.size)++news++cur.toList.drop (sLen * i.size+news.length)).toArray):=by
  subst hn hne
  rw [Lib.run_append_room_string w t t' ty e i hu hut hi hs1 g sLen sCap cur hg s hroom hfit,hs1,Nat.mul_one,Lib.strCells_length]
theorem zJg (w:World) (t t' ty e:TypeId) (i:TypeInfo) (z:Value) (hu:P.underlying t=some (.slice e)) (hut:P.underlying t'=some .string) (hi:P.info? e=some i) (hz:i.zero=some z)
    (b:Addr) (sLen sCap:Nat) (olds:List Value) (hlo:olds.length=sLen * i.size) (holds:∀ j v,olds[j]?=some v→w.cell? (b.add j)=some v) (s:ByteArray) {n:Nat} (hn:s.size=n) {news:List Value} (hne:news=Lib.strCells s)
    (hg:sCap < sLen+n) (h63:((sLen+n:Nat):Int)≤9223372036854775807) (hfit:Builtin.nextslicecap (sLen+n) sCap * i.bytes≤281474976710656) :
    (Builtin.append_ #[t,t'] ty #[.slice (some b) sLen sCap,.string s]).run P w =
      .ok (.slice (some ⟨w.heap.size,0,none⟩) (sLen+n) (grownCap w (sLen+n) sCap e))
        (w.drew.alloc (.cells (olds.toArray++news.toArray++Builtin.zeroCells z.cells (grownCap w (sLen+n) sCap e - (sLen+n))) e)):=by
  subst hn hne
  exact Lib.run_append_grow_string w t t' ty e i z hu hut hi hz b sLen sCap olds hlo holds s hg h63 hfit
theorem zFO {t t' ty:TypeId} {x y:A} {K:A→Heap→Prop} {v u:Value} (h:zHD P t t' x y H K) (m:Mem V Z H w) (rd:RepA V w Z v x) (rs:RepA V w Z u y) :
    ∃ r y Z' H' w',(Builtin.append_ #[t,t'] ty #[v,u]).run P w=.ok r w'∧RepA V w' Z' r y∧Mem V Z' H' w'∧Ext Z H w Z' H' w'∧K y H':=by
  unfold zHD at h
  split at h
  case h_2=>exact h.elim
  rename_i s hut
  have rs:=rs.deep
  cases rs
  unfold yF at h
  split at h
  · rename_i e hu
    split at h
    · rename_i i hi
      split at h
      · rename_i z hz
        obtain ⟨hzs,hsz,hby,h⟩:=h
        obtain ⟨hun,h⟩:=h
        obtain ⟨ns,hnd⟩:∃ ns,ns=s.data.toList.map byteD:=⟨_,rfl⟩
        rw [←hnd] at hun h
        have hnl0:s.size=ns.length:=by rw [hnd,List.length_map,Array.length_toList]; rfl
        have hfl:=xJ hun
        have hsrc:ns=[]∨∃ news:List Value,news=Lib.strCells s∧news.length=(flat ns).length∧(∀ x ∈ news,x.oneCell'=true)∧∀ {w:World} {Z:Nat→Prop} j (h:j < news.length) (h':j < (flat ns).length),RepD V w Z news[j] (flat ns)[j]:=by
          refine .inr ⟨_,rfl, ?_,Lib.strCells_oneCell s, ?_⟩
          · rw [hnd,uS,List.length_map,Lib.strCells_length,Array.length_toList]; rfl
          · intro w Z j h h'
            subst hnd
            simp only [uS,List.getElem_map,Lib.strCells,byteD]
            exact .int ..
        split at h
        · -- onto nothing
          cases rd
          obtain ⟨hb,hK0,hK1⟩:=h
          by_cases hns:ns=[]
          · subst hns
            exact ⟨.slice none 0 0,.nils,Z,H,w,zDJ t t' ty e i hu hut hi s (by rw [hnl0]; rfl) none 0 0 (Nat.le_refl _),.nils,m,.refl ..,hK0 rfl⟩
          · obtain ⟨news, hne, hnl, h1, hrep⟩ := hsrc.resolve_left hns
            have hpos:0 < ns.length:=List.length_pos_iff.2 hns
            obtain ⟨hm1,hm2⟩:=qS hb hby
            have hr:=zQ8 (P:=P) w t t' ty e i z hu hut hi hz s hnl0 hne hpos (by omega) (by omega)
            obtain ⟨md,xd,kd⟩:=m.drew
            have hge:=grownCap_ge w ns.length 0 e
            have hcm:=grownCap_le_maxLen w ns.length 0 e hm1
            have hsize:(news.toArray++Builtin.zeroCells z.cells (grownCap w ns.length 0 e - ns.length)).size=grownCap w ns.length 0 e * i.size:=by
              simp only [Array.size_append,List.size_toArray,size_zeroCells,hzs,hnl,hfl,←Nat.add_mul]
              congr 1; omega
            have htake:(news.toArray++Builtin.zeroCells z.cells (grownCap w ns.length 0 e - ns.length)).toList.take (ns.length * i.size)=news:=by
              simp only [Array.toList_append]
              rw [←hfl,←hnl]
              exact List.take_left
            have kall:=kd
            obtain ⟨m',x'⟩:=md.alloc (.cells (news.toArray++Builtin.zeroCells z.cells (grownCap w ns.length 0 e - ns.length)) e)
              (.arr e i.size (.slice (some ⟨w.heap.size,0,none⟩) ns.length (grownCap w ns.length 0 e)) ns)
              (zA4 (.inr rfl) (heap_alloc_new w.drew _) hge hcm hsize hsz hun (by rw [htake]; exact h1)
                (by
                  rw [htake]
                  intro j hj hj'
                  exact ((hrep j hj hj').keep kd).keep (uZ md _)))
            refine ⟨_,_,_,_,_,hr,.own w.heap.size _ rfl,m',xd.trans m.zlt x',hK1 hns _ _ m.fresh rfl⟩
        · -- onto one of our own
          rename_i b v'
          cases rd with
          | own _ _ hvb =>
          split at h
          · rename_i E sz v'' ds hH
            obtain ⟨rfl,rfl,rfl,hb,hK⟩:=h
            obtain ⟨hm1,hm2⟩:=qS hb hby
            obtain ⟨cap,cur,hv,hh,h4,h5,h6,h0,hu',hlf,h1c,hrc⟩:=zAs (m.heap b _ hH)
            have hfl':=xJ hu'
            have hunA:∀ d ∈ ds++ns,(D.cells d).length=i.size:=fun d hd=>by
              rcases List.mem_append.1 hd with h | h
              · exact hu' d h
              · exact hun d h
            have hflA:=xJ hunA
            by_cases hns:ns=[]
            · subst hns
              have hr:=zDJ (P:=P) (w:=w) t t' ty E i hu hut hi s (by rw [hnl0]; rfl) (some ⟨b,0,none⟩) ds.length cap h4
              obtain ⟨m',x',k⟩:=m.regrow (b':=b) (o':=.arr E i.size v'' (ds++[])) hH rfl (w':=w) rfl rfl rfl (Nat.le_refl _) (fun _ _ _=>rfl) (.inl rfl) (m.lt _ _ hH)
                (fun k=>by simpa using (m.heap b _ hH).keep k fun _=>⟨.inr rfl,rfl⟩)
              refine ⟨_,_,_,_,w, ?_,.own b v'' hvb,m',x',hK b v'' (.inl rfl) hvb⟩
              rw [hv]
              exact hr
            · obtain ⟨news, hne, hnl, h1, hrep⟩ := hsrc.resolve_left hns
              have hnl':news.length=ns.length * i.size:=by rw [hnl,hfl]
              have hlA:(ds++ns).length=ds.length+ns.length:=List.length_append
              have rep:∀ {w':World} {Z':Nat→Prop},Keeps Z w Z' w'→∀ (l:List Value),l=cur.toList.take (ds.length * i.size)++news →
                  ∀ j (hj:j < l.length) (hj':j < (flat (ds++ns)).length),RepD V w' Z' l[j] (flat (ds++ns))[j]:=by
                rintro w' Z' k _ rfl j hj hj'
                simp only [zAL] at hj' ⊢
                rw [List.getElem_append,List.getElem_append]
                by_cases c1:j < (cur.toList.take (ds.length * i.size)).length
                · rw [dif_pos c1, dif_pos (by omega)]
                  exact (hrc j c1 (by omega)).keep k
                · rw [dif_neg c1, dif_neg (by omega)]
                  simp only [List.length_append] at hj hj'
                  have:=(hrep (j - (cur.toList.take (ds.length * i.size)).length) (by omega) (by omega)).keep k
                  simpa only [hlf] using this
              have hone:∀ (l:List Value),l=cur.toList.take (ds.length * i.size)++news→∀ x ∈ l,x.oneCell'=true:=by
                rintro _ rfl x hx
                rcases List.mem_append.1 hx with h | h
                · exact h1c x h
                · exact h1 x h
              have hltake:(cur.toList.take (ds.length * i.size)).length=ds.length * i.size:=by rw [hlf,hfl']
              by_cases hroom:ds.length+ns.length≤cap
              · have hs1 : i.size = 1 := by
                  have:=hun _ (List.getElem_mem (l:=ns) (n:=0) (List.length_pos_iff.2 hns))
                  subst hnd
                  rw [←this,List.getElem_map]; rfl
                have hfit:ds.length * i.size+news.length≤cur.size:=by
                  rw [hnl',h6,←Nat.add_mul]; exact Nat.mul_le_mul_right _ hroom
                have hr:=zOK (P:=P) w t t' ty E i hu hut hi hs1 b ds.length cap cur hh s hnl0 hne hroom (by rw [hnl',hs1,Nat.mul_one,Nat.mul_one] at hfit; exact hfit)
                have htk:((cur.toList.take (ds.length * i.size)++news++cur.toList.drop (ds.length * i.size+news.length)).toArray).toList.take ((ds++ns).length * i.size)=cur.toList.take (ds.length * i.size)++news:=by
                  have:(ds++ns).length * i.size=(cur.toList.take (ds.length * i.size)++news).length:=by
                    simp only [List.length_append,hltake,hnl',Nat.add_mul]
                  rw [this]
                  exact List.take_left
                obtain ⟨m',x',k⟩:=m.regrow (b':=b) (o':=.arr E i.size (.slice (some ⟨b,0,none⟩) (ds++ns).length cap) (ds++ns)) hH rfl
                  (w':=w.setRow b (cur.toList.take (ds.length * i.size)++news++cur.toList.drop (ds.length * i.size+news.length)).toArray) rfl rfl rfl (by simp) (fun k _ hk=>setRow_other w b k _ hk) (.inl rfl) (by simpa using m.lt _ _ hH)
                  (fun k=>zA4 (.inr rfl) (setRow_heap w b _ _ E _ hh) (by omega) h5
                    (by simp only [List.size_toArray,List.length_append,hltake,List.length_drop,Array.length_toList]; omega) h0 hunA
                    (by rw [htk]; exact hone _ rfl) (by
                      intro j hj hj'
                      have:=rep k _ htk j hj hj'
                      exact this))
                refine ⟨_,_,_,_,_, ?_,.own b _ rfl,m',x',hK b _ (.inl rfl) rfl⟩
                rw [hv,hr,hlA]
              · have holds : ∀ j u, (cur.toList.take (ds.length * i.size))[j]? = some u → w.cell? ((⟨b, 0, none⟩ : Addr).add j) = some u := by
                  intro j x hx
                  rw [qF]
                  obtain ⟨hj,e⟩:=List.getElem?_eq_some_iff.1 hx
                  simp only [List.length_take,Array.length_toList] at hj
                  simp only [List.getElem_take,Array.getElem_toList] at e
                  simp [World.cell?,hh,←e,show j < cur.size by omega]
                have hr:=zJg (P:=P) w t t' ty E i z hu hut hi hz ⟨b,0,none⟩ ds.length cap _ hltake holds s hnl0 hne (by omega) (by omega) (growslice_fits (by omega) hb)
                have hge:=grownCap_ge w (ds.length+ns.length) cap E
                have hcm:=grownCap_le_maxLen w (ds.length+ns.length) cap E hm1
                have htk:((cur.toList.take (ds.length * i.size)).toArray++news.toArray++Builtin.zeroCells z.cells (grownCap w (ds.length+ns.length) cap E - (ds.length+ns.length))).toList.take ((ds++ns).length * i.size)
                    = cur.toList.take (ds.length * i.size)++news:=by
                  simp only [Array.toList_append]
                  have:(ds++ns).length * i.size=(cur.toList.take (ds.length * i.size)++news).length:=by
                    simp only [List.length_append,hltake,hnl',Nat.add_mul]
                  rw [this]
                  exact List.take_left
                obtain ⟨m',x',k⟩:=m.regrow (b':=w.heap.size) (o':=.arr E i.size (.slice (some ⟨w.heap.size,0,none⟩) (ds++ns).length (grownCap w (ds.length+ns.length) cap E)) (ds++ns)) hH rfl
                  (w':=w.drew.alloc (.cells ((cur.toList.take (ds.length * i.size)).toArray++news.toArray++Builtin.zeroCells z.cells (grownCap w (ds.length+ns.length) cap E - (ds.length+ns.length))) E))
                  rfl rfl rfl (by simp) (fun k hk _=>uP w.drew _ k hk) (.inr rfl) (by simp)
                  (fun k=>zA4 (.inr rfl) (heap_alloc_new w.drew _) (by omega) hcm
                    (by
                      simp only [Array.size_append,List.size_toArray,size_zeroCells,hzs,hltake,hnl',←Nat.add_mul]
                      congr 1; omega) h0 hunA
                    (by rw [htk]; exact hone _ rfl) (by
                      intro j hj hj'
                      exact rep k _ htk j hj hj'))
                refine ⟨_,_,_,_,_, ?_,.own w.heap.size _ rfl,m',x',hK _ _ (.inr m.fresh) rfl⟩
                rw [hv,hr,hlA]
          · rename_i v'' es hH
            obtain ⟨rfl,hfull,hns,hes,hun',hb,hK⟩:=h
            obtain ⟨hm1,hm2⟩:=qS hb hby
            have rd:RepD V w Z v'' (.slice es):=(m.heap b _ hH).1
            cases rd with
            | empty a cap=>exact (hes rfl).elim
            | slice b0 o cap _ sz cv hk hz' hbb hs hc h1' hr' =>
              obtain ⟨news,hne,hnl,h1,hrep⟩:=hsrc.resolve_left hns
              have hcap:es.length=cap:=Nat.eq_of_beq_eq_true hfull
              have hnl':news.length=ns.length * i.size:=by rw [hnl,hfl]
              have hfl':=xJ hun'
              have hpos:0 < ns.length:=List.length_pos_iff.2 hns
              have hlA:(es++ns).length=es.length+ns.length:=List.length_append
              have hunA:∀ d ∈ es++ns,(D.cells d).length=i.size:=fun d hd=>by
                rcases List.mem_append.1 hd with h | h
                · exact hun' d h
                · exact hun d h
              obtain ⟨olds,hol⟩:∃ olds:List Value,olds=(List.range (flat es).length).map cv:=⟨_,rfl⟩
              have hlo:olds.length=es.length * i.size:=by rw [hol]; simp [hfl']
              have hat:∀ j,j < (flat es).length→olds[j]?=some (cv j):=by
                intro j hj; rw [hol]; simp [hj]
              have holds:∀ j u,olds[j]?=some u→w.cell? ((⟨b0,o,none⟩:Addr).add j)=some u:=by
                intro j u hu'
                obtain ⟨hj,_⟩:=List.getElem?_eq_some_iff.1 hu'
                have hj':j < (flat es).length:=by rw [hlo,←hfl'] at hj; exact hj
                rw [hat j hj'] at hu'
                cases hu'
                rw [qF]; exact hc j hj'
              have hr:=zJg (P:=P) w t t' ty e i z hu hut hi hz ⟨b0,o,none⟩ es.length cap olds hlo holds s hnl0 hne (by omega) (by omega) (growslice_fits (by omega) hb)
              have hge:=grownCap_ge w (es.length+ns.length) cap e
              have hcm:=grownCap_le_maxLen w (es.length+ns.length) cap e hm1
              obtain ⟨md,xd,kd⟩:=m.drew
              have htk:(olds.toArray++news.toArray++Builtin.zeroCells z.cells (grownCap w (es.length+ns.length) cap e - (es.length+ns.length))).toList.take ((es++ns).length * i.size)=olds++news:=by
                simp only [Array.toList_append]
                have:(es++ns).length * i.size=(olds++news).length:=by
                  simp only [List.length_append,hlo,hnl',Nat.add_mul]
                rw [this]
                exact List.take_left
              obtain ⟨m',x'⟩:=md.alloc (.cells (olds.toArray++news.toArray++Builtin.zeroCells z.cells (grownCap w (es.length+ns.length) cap e - (es.length+ns.length))) e)
                (.arr e i.size (.slice (some ⟨w.heap.size,0,none⟩) (es++ns).length (grownCap w (es.length+ns.length) cap e)) (es++ns))
                (zA4 (.inr rfl) (heap_alloc_new w.drew _) (by omega) hcm
                  (by
                    simp only [Array.size_append,List.size_toArray,size_zeroCells,hzs,hlo,hnl',←Nat.add_mul]
                    congr 1; omega) hsz hunA
                  (by
                    rw [htk]
                    intro x hx
                    rcases List.mem_append.1 hx with h | h
                    · rw [hol] at h
                      obtain ⟨j,hj,rfl⟩:=List.mem_map.1 h
                      exact h1' j (List.mem_range.1 hj)
                    · exact h1 x h)
                  (by
                    rw [htk]
                    intro j hj hj'
                    refine RepD.keep ?_ (uZ md _)
                    refine RepD.keep ?_ kd
                    simp only [zAL] at hj' ⊢
                    rw [List.getElem_append,List.getElem_append]
                    by_cases c1:j < olds.length
                    · have c2 : j < (flat es).length := by rw [hlo, ← hfl'] at c1; exact c1
                      rw [dif_pos c1,dif_pos c2]
                      have:=hat j c2
                      rw [List.getElem?_eq_getElem c1,Option.some.injEq] at this
                      rw [this]; exact hr' j c2
                    · have c2 : ¬ j < (flat es).length := by rw [hlo, ← hfl'] at c1; exact c1
                      rw [dif_neg c1,dif_neg c2]
                      simp only [List.length_append] at hj hj'
                      have h3:=hrep (w:=w) (Z:=Z) (j - olds.length) (by omega) (by omega)
                      have e3:olds.length=(flat es).length:=by rw [hlo,hfl']
                      simpa only [e3] using h3))
              refine ⟨_,_,_,_,_, ?_,.own w.heap.size _ rfl,m',xd.trans m.zlt x',hK _ _ m.fresh rfl⟩
              rw [hr,hlA]
          · exact h.elim
        · -- nothing, onto a deep one
          rename_i es
          obtain ⟨hns,hK⟩:=h
          cases rd with
          | d _ _ rd =>
          cases rd with
          | empty a cap=>exact ⟨_,_,Z,H,w,zDJ t t' ty e i hu hut hi s (by rw [hnl0,hns]; rfl) a 0 cap (Nat.zero_le _),.d _ _ (.empty ..),m,.refl ..,hK⟩
          | slice b o cap _ sz cv hk hz' hb hs hc h1 hr =>
            exact ⟨_,_,Z,H,w,zDJ t t' ty e i hu hut hi s (by rw [hnl0,hns]; rfl) _ _ cap hk,.d _ _ (.slice b o cap es sz cv hk hz' hb hs hc h1 hr),m,.refl ..,hK⟩
        · exact h.elim
      · exact h.elim
    · exact h.elim
  · exact h.elim
def aSlD (x:A) (H:Heap) (K:A→Heap→Prop):Prop:=match x with
  | .nils=>K (.d (.raw (.pointer none))) H
  | .own b v=>match H b with
    | some (.arr _ sz v' ds)=>v'=v∧ds≠[]∧K (.eref b v sz 0 0) H
    | _=>False
  | _=>False
theorem zJt {ts:Array TypeId} {ty:TypeId} {x:A} {K:A→Heap→Prop} {v:Value} (h:aSlD x H K) (m:Mem V Z H w) (r:RepA V w Z v x) :
    ∃ u y,(Builtin.unsafeSliceData_ ts ty #[v]).run P w=.ok u w∧RepA V w Z u y∧K y H:=by
  unfold aSlD at h
  split at h
  · cases r
    exact ⟨_,_,rfl,.d _ _ (.raw _ rfl),h⟩
  · rename_i b v0
    cases r with
    | own _ _ hb =>
    split at h
    · rename_i E sz v' ds hH
      obtain ⟨rfl,hd,hK⟩:=h
      obtain ⟨cap,cur,hv,hh,h4,h5,h6,h0,hun,hlf,h1c,hrc⟩:=zAs (m.heap b _ hH)
      have hl:0 < ds.length:=List.length_pos_iff.2 hd
      refine ⟨.pointer (some ⟨b,0,none⟩),.eref b v' sz 0 0, ?_, ?_,hK⟩
      · rw [hv]
        exact Lib.run_unsafeSliceData_row w ts ty _ _ _ (by omega)
      · have := RepA.eref (V := V) (w := w) (Z := Z) b v' sz 0 0
        simpa using this
    · exact h.elim
  · exact h.elim
def zKm (P:Program) (t:TypeId) (x y:A) (H:Heap) (K:A→Heap→Prop):Prop:=match x,y with
  | .d (.raw (.pointer none)),.d (.int _ 0)=>K (.d (.str ⟨#[]⟩)) H
  | .eref b v sz 0 0,.d (.int .i64 n)=>match H b with
    | some (.arr E _ v' ds)=>v'=v∧sz=1∧P.underlying t=some (.pointer E)∧P.cellsOf E=1∧ds≠[]∧n=ds.length∧∃ bs:List UInt8,ds=bs.map byteD∧K (.d (.str ⟨bs.toArray⟩)) (upd H b (.frz v ds))
    | _=>False
  | _,_=>False
theorem zGF {t t' ty:TypeId} {x y:A} {K:A→Heap→Prop} {u v:Value} (h:zKm P t x y H K) (m:Mem V Z H w) (rx:RepA V w Z u x) (ry:RepA V w Z v y) :
    ∃ r z Z' H' w',(Builtin.unsafeString_ #[t,t'] ty #[u,v]).run P w=.ok r w'∧RepA V w' Z' r z∧Mem V Z' H' w'∧Ext Z H w Z' H' w'∧K z H':=by
  unfold zKm at h
  split at h
  · have rx := rx.deep
    have ry:=ry.deep
    cases rx with
    | raw =>
      cases ry
      exact ⟨.string .empty,.d (.str ⟨#[]⟩),Z,H,w,rfl,.d _ _ (.str _),m,.refl ..,h⟩
  · rename_i b v0 sz n
    have ry:=ry.deep
    cases ry
    cases rx with
    | eref =>
    split at h
    · rename_i E sz' v' ds hH
      obtain ⟨rfl,rfl,hu,hc,hd,rfl,bs,hbs,hK⟩:=h
      have hob:=m.heap b _ hH
      obtain ⟨cap,cur,hv,hh,h4,h5,h6,h0,hun,hlf,h1c,hrc⟩:=zAs hob
      have hl:0 < ds.length:=List.length_pos_iff.2 hd
      have hsz:sz'=1:=by
        have:=hun _ (List.getElem_mem (l:=ds) (n:=0) hl)
        subst hbs
        rw [←this,List.getElem_map]; rfl
      subst hsz
      have hbl:bs.length=ds.length:=by rw [hbs,List.length_map]
      have hsh:w.shape? b=some (E,cur.size):=by simp only [World.shape?,hh]
      have hzb:Z b:=hob.1
      have hother:∀ k,k≠b→(w.freeze ⟨b,0,none⟩ bs.length).heap[k]?=w.heap[k]?:=by
        intro k hk
        have:bs.length≠0:=by omega
        simp only [World.freeze,this,if_false,Array.getElem?_modify]
        rw [if_neg (fun e=>hk e.symm)]
      have hself:∃ fr,(w.freeze ⟨b,0,none⟩ bs.length).heap[b]?=some (.cells cur E fr):=by
        have:bs.length≠0:=by omega
        simp only [World.freeze,this,if_false,Array.getElem?_modify,if_true,hh,Option.map_some]
        split <;> exact ⟨_,rfl⟩
      obtain ⟨fr,hself⟩:=hself
      have hsize:(w.freeze ⟨b,0,none⟩ bs.length).heap.size=w.heap.size:=by
        have:bs.length≠0:=by omega
        simp [World.freeze,this]
      have k:Keeps Z w (fun k=>Z k∧k≠b) (w.freeze ⟨b,0,none⟩ bs.length) :=
        ⟨by rw [hsize]; exact Nat.le_refl _,fun k _ hz=>hother k (fun e=>hz (e ▸ hzb)),fun _ _ hz hz'=>hz hz'.1⟩
      have hflb:flat ds=bs.map byteD:=by rw [hbs,uS]
      have hcellv:∀ j x,bs[j]?=some x→w.cell? ((⟨b,0,none⟩:Addr).add j)=some (.int .u8 x.toNat):=by
        intro j x hx
        obtain ⟨hj,e⟩:=List.getElem?_eq_some_iff.1 hx
        have hj2:j < (flat ds).length:=by rw [hflb,List.length_map]; exact hj
        have hj1:j < (cur.toList.take (ds.length * 1)).length:=by rw [hlf]; exact hj2
        have r:=hrc j hj1 hj2
        have e2:(flat ds)[j]=byteD x:=by simp only [hflb,List.getElem_map,e]
        rw [e2] at r
        rw [qF]
        have h8:j < cur.size:=by simp only [List.length_take,Array.length_toList] at hj1; omega
        simp only [World.cell?,hh,Nat.zero_add]
        simp only [List.getElem_take,Array.getElem_toList] at r
        simp only [byteD] at r
        rw [Array.getElem?_eq_getElem h8]
        generalize cur[j]=y at r
        cases r
        rfl
      have hrep:RepD V (w.freeze ⟨b,0,none⟩ bs.length) (fun k=>Z k∧k≠b) v' (.slice ds):=by
        rw [hv]
        have hlen:∀ j,j < (flat ds).length→j < (cur.toList.take (ds.length * 1)).length:=fun j hj=>by rw [hlf]; exact hj
        refine .slice b 0 cap ds 1 (fun j=>(cur.toList.take (ds.length * 1)).getD j undef) h4 (fun x=>x.2 rfl) (by rw [hsize]; exact m.lt _ _ hH) hun ?_ ?_ ?_
        · intro j hj
          have h7:=hlen j hj
          simp only [List.getD,List.getElem?_eq_getElem h7,Option.getD_some,World.cell?,hself,Nat.zero_add]
          have h8:j < cur.size:=by simp only [List.length_take,Array.length_toList] at h7; omega
          simp [List.getElem_take,h8]
        · intro j hj
          simp only [List.getD,List.getElem?_eq_getElem (hlen j hj),Option.getD_some]
          exact h1c _ (List.getElem_mem _)
        · intro j hj
          simp only [List.getD,List.getElem?_eq_getElem (hlen j hj),Option.getD_some]
          exact (hrc j (hlen j hj) hj).keep k
      refine ⟨_,_,fun k=>Z k∧k≠b,upd H b (.frz v' ds),w.freeze ⟨b,0,none⟩ bs.length, ?_,.d _ _ (.str _),⟨?_, ?_,m.env.keep k, ?_⟩, ?_,hK⟩
      · rw [← hbl]
        have:=Lib.run_unsafeString_row (P:=P) w t t' ty E hu hc b cur.size hsh bs (by intro e; subst e; simp at hbl; omega) (by omega) (by simp only [maxLen] at h5; omega) hcellv
        simpa using this
      · intro k' o ho
        by_cases e:k'=b
        · subst e; rw [zV] at ho; cases ho; exact ⟨hrep,fun x=>x.2 rfl,_,_,_,hself⟩
        · rw [xI _ _ e] at ho
          exact (m.heap k' o ho).keep k fun hw=>⟨⟨m.own k' ⟨o,ho,hw⟩,e⟩,hother k' e⟩
      · intro k' hk'; rw [hsize]; exact m.zlt k' hk'.1
      · intro k' o ho
        rw [hsize]
        by_cases e:k'=b
        · subst e; exact m.lt _ _ hH
        · rw [xI _ _ e] at ho; exact m.lt _ _ ho
      · have hos : (w.freeze ⟨b, 0, none⟩ bs.length).os = w.os := by unfold World.freeze; split <;> rfl
        have hta:(w.freeze ⟨b,0,none⟩ bs.length).tape=w.tape:=by unfold World.freeze; split <;> rfl
        have hou:(w.freeze ⟨b,0,none⟩ bs.length).output=w.output:=by unfold World.freeze; split <;> rfl
        refine ⟨hos,hta,hou,by rw [hsize]; exact Nat.le_refl _,fun k' _ hk'=>hother k' (fun e=>hk' (e ▸ ⟨_,hH,rfl⟩)),fun k' hk'=>.inl hk'.1,fun k' hk' ho=>⟨hk',fun e=>ho (e ▸ ⟨_,hH,rfl⟩)⟩, ?_⟩
        rintro k' ⟨o,ho,hw⟩
        by_cases e:k'=b
        · subst e; rw [zV] at ho; cases ho; simp [AObj.owns] at hw
        · rw [xI _ _ e] at ho; exact .inl ⟨o,ho,hw⟩
    · exact h.elim
  · exact h.elim
end
end Go.Aug

/-
  The abstract layer, part N: one operation; a stretch of operations; a piece of code.
-/
namespace Go.Aug
def zPi:A→A
  | .nils=>.d (.raw (.slice none 0 0))
  | x=>x
def zJI:Bool→A→A
  | true,.agg cs=>aggN (cs.map zPi)
  | _,y=>y
theorem zJQ {V:Env} {w:World} {Z:Nat→Prop} {v:Value} {x:A} (r:RepA V w Z v x):RepA V w Z v (zPi x):=by
  cases x with
  | nils=>cases r; exact .d _ _ (.raw _ rfl)
  | _=>exact r
theorem zLy {V:Env} {w:World} {Z:Nat→Prop} {v:Value} {x:A} (b:Bool) (r:RepA V w Z v x):RepA V w Z v (zJI b x):=by
  cases b with
  | false=>exact r
  | true =>
    cases x with
    | agg cs =>
      cases r with
      | agg cv _ hl h1 hr=>exact zCm (.agg cv _ (by simpa using hl) h1 fun j h h'=>by simp only [List.getElem_map]; exact zJQ (hr j h (by simpa using h')))
    | _=>exact r
def zH (P:Program) (f:FuncId):Bool :=
  match P.funcs[f]? with
  | some fn=>fn.name != "runtime.NumGoroutine" && fn.body.isSome
  | none=>false
abbrev noP:Value→Heap→Prop:=fun _ _=>False
def aExt (mx:Bool):A→A→(A→Prop)→Prop
  | .d (.int k a),.d (.int _ b),K=>K (.d (.int k (match mx with | true=>if b > a then b else a | false=>if b < a then b else a)))
  | _,_,_=>False
def yE (P:Program) (V:Env) (N:Nat) (F:Nat→A) (c:Call) (H:Heap) (K:A→Heap→Prop) (KP:Value→Heap→Prop):Prop :=
  match c.callee with
  | .builtin .len=>match c.args.toList,c.argTypes.toList with
    | [x],[t]=>lenable P t (ev V N F x)=true∧aLen (ev V N F x) H fun y=>K y H
    | _,_=>False
  | .builtin .append=>match c.args.toList,c.argTypes.toList with
    | [x,y],[t,t']=>if t=t' then yF P t (ev V N F x) (ev V N F y) H K else zHD P t t' (ev V N F x) (ev V N F y) H K
    | _,_=>False
  | .builtin .unsafeSliceData=>match c.args.toList with
    | [x]=>aSlD (ev V N F x) H K
    | _=>False
  | .builtin .unsafeString=>match c.args.toList,c.argTypes.toList with
    | [x,y],[t,_]=>zKm P t (ev V N F x) (ev V N F y) H K
    | _,_=>False
  | .builtin .max=>match c.args.toList with
    | [x,y]=>aExt true (ev V N F x) (ev V N F y) fun z=>K z H
    | _=>False
  | .builtin .min=>match c.args.toList with
    | [x,y]=>aExt false (ev V N F x) (ev V N F y) fun z=>K z H
    | _=>False
  | .value f=>match ev V N F f with
    | .func g caps=>zH P g=true∧match V.pan g with
      | false=>ACall P V g (c.args.toList.map (ev V N F)++caps) H K
      | true=>ACallP P V g (c.args.toList.map (ev V N F)++caps) H K KP
    | .yld l=>ARound P V l (c.args.toList.map (ev V N F)) H K
    | .meth g bs=>zH P g=true∧match V.pan g with
      | false=>ACall P V g (bs++c.args.toList.map (ev V N F)) H K
      | true=>ACallP P V g (bs++c.args.toList.map (ev V N F)) H K KP
    | _=>False
  | _=>False
def conc (V:Env):D→Option Value
  | .int k n=>some (.int k n)
  | .bool b=>some (.bool b)
  | .str s=>some (.string s)
  | .sent g=>some (V.E g)
  | .raw v=>some v
  | _=>none
theorem zJz {V:Env} {w:World} {Z:Nat→Prop} {u v:Value} {d:D} (h:conc V d=some v) (r:RepD V w Z u d):u=v:=by
  cases r <;> simp [conc] at h <;> exact h
def ifcT (P:Program) (t:TypeId):Bool:=match P.underlying t with
  | some (.interface _)=>false
  | some _=>true
  | none=>false
def zKK (P:Program) (V:Env) (t:TypeId):A→Option Value
  | .d (.agg [c])=>match ifcT P t with
    | true=>(conc V c).map fun v=>.iface t (.agg #[v])
    | false=>none
  | _=>none
def aopO (P:Program) (V:Env) (N:Nat) (op:Op) (F:Nat→A) (H:Heap) (K:A→Heap→Prop) (KP:Value→Heap→Prop):Prop :=
  match op with
  | .move x=>K (ev V N F x) H
  | .assign x=>K (ev V N F x) H
  | .pick c a b=>match ev V N F c with
    | .d (.bool t)=>if t=true then K (ev V N F a) H else K (ev V N F b) H
    | _=>False
  | .alloc t=>zIt P t H K
  | .box _ x=>aBox (ev V N F x) H K
  | .build t parts=>yZ P t (parts.toList.map fun p=>(p.1,ev V N F p.2)) fun y=>K (zJI (V.nz t) y) H
  | .buildSlice t len parts=>zJ P t len (parts.toList.map fun p=>(p.1,ev V N F p.2)) H K
  | .load t x=>xT P t (ev V N F x) H fun y=>K y H
  | .store t x y=>yU P t (ev V N F x) (ev V N F y) H fun H=>K .undef H
  | .nilCheck x=>match ev V N F x with
    | .ref b off=>K (.ref b off) H
    | .imm ds=>K (.imm ds) H
    | .eref b v sz i off=>K (.eref b v sz i off) H
    | .func f caps=>K (.func f caps) H
    | _=>False
  | .binOp op t x y _=>aBin P V op t (jC x || jC y) (ev V N F x) (ev V N F y) fun z=>K z H
  | .unOp op _ x=>aUn op (ev V N F x) fun y=>K y H
  | .convert s d x=>match zEQ P s d with
    | true=>zKk (ev V N F x) H K
    | false=>wK P s d (ev V N F x) H fun y=>K y H
  | .makeFunc (.func f) first caps=>match first.toList with
    | []=>K (.func f (caps.toList.map (ev V N F))) H
    | x::l=>caps.size=0∧K (.meth f ((x::l).map (ev V N F))) H
  | .makeSlice t l c=>zM P t (ev V N F l) (ev V N F c) H K
  | .slice t x lo hi none=>xC P t (ev V N F x) (lo.map (ev V N F)) (hi.map (ev V N F)) H K
  | .fieldAddr s x f=>yV P s (ev V N F x) f fun y=>K y H
  | .field s x f=>zX P s (ev V N F x) f fun y=>K y H
  | .indexAddr t x i=>zL P t (ev V N F x) (ev V N F i) H fun y=>K y H
  | .index t x i=>yW P t (ev V N F x) (ev V N F i) fun y=>K y H
  | .extract x i=>match ev V N F x with
    | .tup vs=>match vs[i]? with
      | some y=>K y H
      | none=>False
    | _=>False
  | .call c=>yE P V N F c H K KP
  | .makeMap t none=>yA P t H K
  | .lookup t x y ok=>yK P t (ev V N F x) (ev V N F y) ok H fun y=>K y H
  | .mapUpdate t x y z=>zQ P t (ev V N F x) (ev V N F y) (ev V N F z) H fun H=>K .undef H
  | .makeInterface t x=>match zKK P V t (ev V N F x) with
    | some v=>K (.d (.raw v)) H
    | none=>False
  | .panic x=>match ev V N F x with
    | .d (.raw (.iface t v))=>KP (.iface t v) H
    | _=>False
  | _=>False
def aop (P:Program) (V:Env) (N:Nat) (o:Oper) (F:Nat→A) (H:Heap) (K:A→Heap→Prop) (KP:Value→Heap→Prop):Prop:=aopO P V N o.op F H K KP
section
variable {P:Program} {V:Env} {N:Nat} {ds:Df} {F:Nat→A} {Z:Nat→Prop} {H:Heap} {a:Act} {w:World}
theorem zFh {ts:Array TypeId} {ty:TypeId} {x y:A} {K:A→Prop} {u v:Value} (mx:Bool) (h:aExt mx x y K) (r:RepA V w Z u x) (r':RepA V w Z v y) :
    Ans P V w Z (match mx with | true=>Builtin.max_ ts ty #[u,v] | false=>Builtin.min_ ts ty #[u,v]) K:=by
  unfold aExt at h
  split at h
  · rename_i k a k' b _ _
    cases r with
    | d _ _ r =>
      cases r' with
      | d _ _ r' =>
        cases r
        cases r'
        cases mx with
        | true=>exact ⟨_,_,by simp [Builtin.max_,Builtin.max2],.d _ _ (.int _ _),h⟩
        | false=>exact ⟨_,_,by simp [Builtin.min_,Builtin.min2],.d _ _ (.int _ _),h⟩
  · exact h.elim
theorem zE8 {s:TypeId} {x:A} {f:Nat} {K:A→Prop} {v:Value} (h:zX P s x f K) (r:RepA V w Z v x):Ans P V w Z (Instr.field s v f) K:=by
  unfold zX at h
  split at h
  · rename_i fields hu
    split at h
    · rename_i fd hf
      have hx:∃ cv:List Value,v=.agg cv.toArray:=by
        unfold zB3 at h
        cases r with
        | agg cv cs hl h1 hr=>exact ⟨cv,rfl⟩
        | d _ y rd =>
          cases rd with
          | agg cv cs hl h1 hr=>exact ⟨cv,rfl⟩
          | _=>simp at h
        | _=>simp at h
      obtain ⟨cv,rfl⟩:=hx
      obtain ⟨u,y,h1,h2,h3⟩:=zDV h r
      exact ⟨u,y,by simp [Instr.field,run_underlying hu,hf,asAgg,h1],h2,h3⟩
    · exact h.elim
  · exact h.elim
theorem zCJ (s:St V N ds Z F H a w) (l:List Operand):(l.map a.eval).length=(l.map (ev V N F)).length∧∀ j (h:j < (l.map a.eval).length) (h':j < (l.map (ev V N F)).length),RepA V w Z (l.map a.eval)[j] (l.map (ev V N F))[j]:=by
  refine ⟨by simp, ?_⟩
  intro j h h'
  simp only [List.getElem_map]
  exact xM s _
theorem jZ {r:Option Nat} {o:Oper} {next:Act→World→Prop} {Q:Exit→Act→World→Prop} {s:Sem Value} {u:Value} {w':World} (hnd:∀ c,o.op≠.defer c) (he:execOp a.eval o=(do pure (.value (←s)):Sem Next)) (hr:s.run P w=.ok u w') (hn:next (a.put o.dst u) w'):o.wpIn (wQ r) 0 P a w next Q:=by
  refine ⟨fun _ _=>trivial, ?_⟩
  rw [Oper.semAt_eq _ _ _ hnd,he,Sem.run_bind,hr]
  exact hn
theorem zDY {ro:Option Nat} {o:Oper} {K:A→Heap→Prop} {KP:Value→Heap→Prop} {next:Act→World→Prop} {Q:Exit→Act→World→Prop} (s:St V N ds Z F H a w) (h:aop P V N o F H K KP)
    (hn:∀ x v Z' H' w',RepA V w' Z' v x→Mem V Z' H' w'→Ext Z H w Z' H' w'→K x H'→next (a.put o.dst v) w')
    (hp:∀ v Z' H' w',Mem V Z' H' w'→Ext Z H w Z' H' w'→KP v H'→Q (.panic [{ v,recovered:=false }]) a w'):o.wpIn (wQ ro) 0 P a w next Q:=by
  have m:=s.mem
  have hnd:∀ c,o.op≠.defer c:=by
    intro c hc
    unfold aop at h
    rw [hc] at h
    exact h
  have here:∀ {m':Sem Value} {K':A→Prop},execOp a.eval o=(do pure (.value (←m')):Sem Next)→Ans P V w Z m' K'→(∀ y,K' y→K y H)→o.wpIn (wQ ro) 0 P a w next Q:=by
    rintro m' K' he ⟨u,y,hr,ry,hy⟩ hk
    exact jZ hnd he hr (hn y u Z H w ry m (.refl ..) (hk y hy))
  obtain ⟨dst,op,ty,pos,after,guard⟩:=o
  unfold aop aopO at h
  simp only at h
  split at h
  · rename_i x
    exact here (m':=pure (a.eval x)) (K':=fun z=>K z H) (by simp [execOp]) ⟨_,_,rfl,xM s x,h⟩ (fun _ hk=>hk)
  · rename_i x
    exact here (m':=pure (a.eval x)) (K':=fun z=>K z H) (by simp [execOp]) ⟨_,_,rfl,xM s x,h⟩ (fun _ hk=>hk)
  · rename_i c x y
    split at h
    · rename_i t ht
      have rc:=xM s c
      rw [ht] at rc
      have rc:=rc.deep
      generalize hc:a.eval c=v at rc
      cases rc
      split at h
      · rename_i e; subst e
        refine here (m':=pure (a.eval x)) (K':=fun z=>K z H) ?_ ⟨_,_,rfl,xM s x,h⟩ (fun _ hk=>hk)
        simp [execOp,hc,asBool]
      · rename_i e
        have e:t=false:=by simpa using e
        subst e
        refine here (m':=pure (a.eval y)) (K':=fun z=>K z H) ?_ ⟨_,_,rfl,xM s y,h⟩ (fun _ hk=>hk)
        simp [execOp,hc,asBool]
    · exact h.elim
  · obtain ⟨u, y, Z', H', w', hr, ry, m', x', hK⟩ := zGx h m
    exact jZ hnd rfl hr (hn y u Z' H' w' ry m' x' hK)
  · obtain ⟨u, y, Z', H', w', hr, ry, m', x', hK⟩ := zJo h m (xM s _)
    exact jZ hnd rfl hr (hn y u Z' H' w' ry m' x' hK)
  · rename_i t parts
    have:=zGy (P:=P) (V:=V) (w:=w) (Z:=Z) (vparts:=parts.map fun (p:Nat×Operand)=>(p.1,a.eval p.2)) h (by simp)
      (fun j h h'=>by simp only [Array.toList_map,List.getElem_map]; exact ⟨trivial,xM s _⟩)
    obtain ⟨u,y,hr,ry,hk⟩:=this
    exact here rfl ⟨u,zJI (V.nz t) y,hr,zLy _ ry,hk⟩ (fun _ hk=>hk)
  · rename_i t len parts
    obtain ⟨u,y,Z',H',w',hr,ry,m',x',hK⟩:=zCD (P:=P) (vparts:=parts.map fun (p:Nat×Operand)=>(p.1,a.eval p.2)) h m (by simp)
      (fun j h h'=>by simp only [Array.toList_map,List.getElem_map]; exact ⟨trivial,xM s _⟩)
    exact jZ hnd rfl hr (hn y u Z' H' w' ry m' x' hK)
  · exact here rfl (zDU h m (xM s _)) (fun _ hk=>hk)
  · obtain ⟨Z', H', w', hr, m', x', hK⟩ := zGE h m (xM s _) (xM s _)
    refine ⟨fun _ _=>trivial, ?_⟩
    rw [Oper.semAt_eq _ _ _ hnd]
    simp only [execOp,Sem.run_bind,hr,Result.andThen_ok,Sem.run_pure]
    exact hn _ undef Z' H' w' (.undef _) m' x' hK
  · rename_i x
    have rx:=xM s x
    split at h
    · rename_i b off hx
      rw [hx] at rx
      generalize hv:a.eval x=v at rx
      cases rx
      refine here (m':=pure (a.eval x)) (K':=fun z=>K z H) ?_ ⟨_,_,rfl,by rw [hv]; exact .ref ..,h⟩ (fun _ hk=>hk)
      simp [execOp,hv]
    · rename_i ds hx
      rw [hx] at rx
      generalize hv:a.eval x=v at rx
      have rx':=rx
      cases rx
      refine here (m':=pure (a.eval x)) (K':=fun z=>K z H) ?_ ⟨_,_,rfl,by rw [hv]; exact rx',h⟩ (fun _ hk=>hk)
      simp [execOp,hv]
    · rename_i b v' sz i off hx
      rw [hx] at rx
      generalize hv:a.eval x=v at rx
      have rx':=rx
      cases rx
      refine here (m':=pure (a.eval x)) (K':=fun z=>K z H) ?_ ⟨_,_,rfl,by rw [hv]; exact rx',h⟩ (fun _ hk=>hk)
      simp [execOp,hv]
    · rename_i f caps hx
      rw [hx] at rx
      generalize hv:a.eval x=v at rx
      have rx':=rx
      cases rx
      refine here (m':=pure (a.eval x)) (K':=fun z=>K z H) ?_ ⟨_,_,rfl,by rw [hv]; exact rx',h⟩ (fun _ hk=>hk)
      simp [execOp,hv]
    · exact h.elim
  · exact here rfl (zJn h m (xM s _) (xM s _)) (fun _ hk=>hk)
  · exact here rfl (zKn h (xM s _)) (fun _ hk=>hk)
  · split at h
    · rename_i hs
      obtain ⟨u,y,Z',H',w',hr,ry,m',x',hK⟩:=zHG h hs m (xM s _)
      exact jZ hnd rfl hr (hn y u Z' H' w' ry m' x' hK)
    · obtain ⟨u, y, w', hr, ry, m', x', hK⟩ := zHE h m (xM s _)
      exact jZ hnd rfl hr (hn y u Z H w' ry m' x' hK)
  · rename_i f first caps
    split at h
    · rename_i h0
      have:first=#[]:=by simpa using h0
      subst this
      obtain ⟨hl,hr⟩:=zCJ s caps.toList
      refine here rfl ⟨.func (.func f) #[] (caps.toList.map a.eval).toArray,_, ?_,.func f _ _ hl hr,h⟩ (fun _ hk=>hk)
      simp [Instr.makeFunc]
      rw [←Array.toList_map,Array.toArray_toList]
    · rename_i x l h0
      obtain ⟨h1,h⟩:=h
      have:caps=#[]:=Array.eq_empty_of_size_eq_zero h1
      subst this
      rw [←h0] at h
      obtain ⟨hl,hr⟩:=zCJ s first.toList
      refine here rfl ⟨.func (.func f) (first.toList.map a.eval).toArray #[],_, ?_,.meth f _ _ hl hr,h⟩ (fun _ hk=>hk)
      simp [Instr.makeFunc]
      rw [←Array.toList_map,Array.toArray_toList]
  · obtain ⟨u, y, Z', H', w', hr, ry, m', x', hK⟩ := zDp h m (xM s _) (xM s _)
    exact jZ hnd rfl hr (hn y u Z' H' w' ry m' x' hK)
  · rename_i t x lo hi
    obtain ⟨u,y,Z',H',hr,ry,m',x',hK⟩:=zGD (P:=P) (vlo:=lo.map a.eval) (vhi:=hi.map a.eval) h m (xM s _)
      (fun b hb=>by cases lo with | none=>cases hb | some o=>cases hb; exact ⟨_,rfl,xM s o⟩) (fun e=>by cases lo with | none=>rfl | some o=>cases e)
      (fun b hb=>by cases hi with | none=>cases hb | some o=>cases hb; exact ⟨_,rfl,xM s o⟩) (fun e=>by cases hi with | none=>rfl | some o=>cases e)
    exact jZ hnd rfl hr (hn y u Z' H' w ry m' x' hK)
  · exact here rfl (zGB h (xM s _)) (fun _ hk=>hk)
  · exact here rfl (zE8 h (xM s _)) (fun _ hk=>hk)
  · exact here rfl (zDo h m (xM s _) (xM s _)) (fun _ hk=>hk)
  · exact here rfl (zGC h (xM s _) (xM s _)) (fun _ hk=>hk)
  · rename_i x i
    have rx:=xM s x
    split at h
    · rename_i vs hx
      rw [hx] at rx
      generalize hv:a.eval x=v at rx
      split at h
      · rename_i y hy
        cases rx with
        | tup cv cs hl hr =>
          obtain ⟨hi,rfl⟩:=List.getElem?_eq_some_iff.1 hy
          exact here (m':=Instr.extract (a.eval x) i) rfl ⟨cv[i],_,by simp [Instr.extract,hv,show i < cv.length by omega],hr i (by omega) hi,h⟩ (fun _ hk=>hk)
      · exact h.elim
    · exact h.elim
  · rename_i c
    unfold yE at h
    split at h
    · rename_i hc
      split at h
      · rename_i x t hx ht
        obtain ⟨hl,h⟩:=h
        obtain ⟨u,y,hr,ry,hK⟩:=zJs (P:=P) (ty:=ty) h hl m (xM s x)
        have ha:c.args.map a.eval=#[a.eval x]:=by apply Array.ext'; simp [hx]
        have ht':c.argTypes=#[t]:=by apply Array.ext'; simpa using ht
        refine here (m':=Builtin.len_ #[t] ty #[a.eval x]) ?_ ⟨u,y,hr,ry,hK⟩ (fun _ hk=>hk)
        simp [execOp,resolve,hc,invoke,builtin,ha,ht']
      · exact h.elim
    · rename_i hc
      split at h
      · rename_i x y t t' hx ht
        have ha:c.args.map a.eval=#[a.eval x,a.eval y]:=by apply Array.ext'; simp [hx]
        have ht':c.argTypes=#[t,t']:=by apply Array.ext'; simpa using ht
        split at h
        · rename_i e
          subst e
          obtain ⟨u,z,Z',H',w',hr,ry,m',x',hK⟩:=zFP (ty:=ty) h m (xM s x) (xM s y)
          refine jZ hnd (s:=Builtin.append_ #[t,t] ty #[a.eval x,a.eval y]) ?_ hr (hn z u Z' H' w' ry m' x' hK)
          simp [execOp,resolve,hc,invoke,builtin,ha,ht']
        · obtain ⟨u, z, Z', H', w', hr, ry, m', x', hK⟩ := zFO (ty := ty) h m (xM s x) (xM s y)
          refine jZ hnd (s:=Builtin.append_ #[t,t'] ty #[a.eval x,a.eval y]) ?_ hr (hn z u Z' H' w' ry m' x' hK)
          simp [execOp,resolve,hc,invoke,builtin,ha,ht']
      · exact h.elim
    · rename_i hc
      split at h
      · rename_i x hx
        have ha:c.args.map a.eval=#[a.eval x]:=by apply Array.ext'; simp [hx]
        obtain ⟨u,z,hr,ry,hK⟩:=zJt (P:=P) (ts:=c.argTypes) (ty:=ty) h m (xM s x)
        refine here (m':=Builtin.unsafeSliceData_ c.argTypes ty #[a.eval x]) (K':=fun z=>K z H) ?_ ⟨_,z,hr,ry,hK⟩ (fun _ hk=>hk)
        simp [execOp,resolve,hc,invoke,builtin,ha]
      · exact h.elim
    · rename_i hc
      split at h
      · rename_i x y t t' hx ht
        have ha:c.args.map a.eval=#[a.eval x,a.eval y]:=by apply Array.ext'; simp [hx]
        have ht':c.argTypes=#[t,t']:=by apply Array.ext'; simpa using ht
        obtain ⟨u,z,Z',H',w',hr,ry,m',x',hK⟩:=zGF (t':=t') (ty:=ty) h m (xM s x) (xM s y)
        refine jZ hnd (s:=Builtin.unsafeString_ #[t,t'] ty #[a.eval x,a.eval y]) ?_ hr (hn z u Z' H' w' ry m' x' hK)
        simp [execOp,resolve,hc,invoke,builtin,ha,ht']
      · exact h.elim
    · rename_i hc
      split at h
      · rename_i x y hx
        have ha:c.args.map a.eval=#[a.eval x,a.eval y]:=by apply Array.ext'; simp [hx]
        obtain ⟨u,z,hr,ry,hK⟩:=zFh (P:=P) (ts:=c.argTypes) (ty:=ty) true h (xM s x) (xM s y)
        refine here (m':=Builtin.max_ c.argTypes ty #[a.eval x,a.eval y]) (K':=fun z=>K z H) ?_ ⟨_,z,hr,ry,hK⟩ (fun _ hk=>hk)
        simp [execOp,resolve,hc,invoke,builtin,ha]
      · exact h.elim
    · rename_i hc
      split at h
      · rename_i x y hx
        have ha:c.args.map a.eval=#[a.eval x,a.eval y]:=by apply Array.ext'; simp [hx]
        obtain ⟨u,z,hr,ry,hK⟩:=zFh (P:=P) (ts:=c.argTypes) (ty:=ty) false h (xM s x) (xM s y)
        refine here (m':=Builtin.min_ c.argTypes ty #[a.eval x,a.eval y]) (K':=fun z=>K z H) ?_ ⟨_,z,hr,ry,hK⟩ (fun _ hk=>hk)
        simp [execOp,resolve,hc,invoke,builtin,ha]
      · exact h.elim
    · rename_i f hc
      split at h
      · rename_i g caps hg
        obtain ⟨hcb,h⟩:=h
        have rf:=xM s f
        rw [hg] at rf
        generalize hv:a.eval f=v at rf
        cases rf with
        | func _ cv _ hl hr =>
          obtain ⟨el,er⟩:=zCJ s c.args.toList
          have hlen:(c.args.toList.map a.eval++cv).length=(c.args.toList.map (ev V N F)++caps).length:=by simp only [List.length_append,hl,el]
          have hrep:∀ j (h:j < (c.args.toList.map a.eval++cv).length) (h':j < (c.args.toList.map (ev V N F)++caps).length),RepA V w Z (c.args.toList.map a.eval++cv)[j] (c.args.toList.map (ev V N F)++caps)[j]:=by
            intro j hj hj'
            rw [List.getElem_append,List.getElem_append]
            by_cases e:j < (c.args.toList.map a.eval).length
            · rw [dif_pos e,dif_pos (by omega)]; exact er j e (by omega)
            · rw [dif_neg e, dif_neg (by omega)]
              simp only [List.length_append] at hj hj'
              have:=hr (j - (c.args.toList.map a.eval).length) (by omega) (by omega)
              simpa only [el] using this
          unfold zH at hcb
          split at hcb
          · rename_i fn hfn
            simp only [Bool.and_eq_true,bne_iff_ne] at hcb
            have hne:=hcb.1
            have hnone:¬ fn.body=none:=fun e=>by rw [e] at hcb; simp at hcb
            have hargs:(c.args.toList.map a.eval++cv).toArray=c.args.map a.eval++cv.toArray:=by apply Array.ext'; simp
            have hexec:(execOp a.eval { dst,op:=.call c,type:=ty,pos,after,guard }).run P w=.ok (.enter g (c.args.map a.eval++cv.toArray)) w:=by
              simp [execOp,resolve,hc,hv,Deferred.ofValue,invoke,callFunc,hfn,hne,hnone]
            refine ⟨fun _ _=>trivial, ?_⟩
            rw [Oper.semAt_eq _ _ _ hnd,hexec,Oper.uponIn_enter,←hargs]
            refine ⟨kI _ _,callsIn_roundF.2 ?_⟩
            split at h
            · refine (h Z w _ hlen hrep m).mono ?_
              rintro e w' ⟨u,r,Z',H',rfl,rr,m',x',hK⟩
              exact hn r u Z' H' w' rr m' x' hK
            · refine (h Z w _ hlen hrep m).mono ?_
              rintro e w' (⟨u,r,Z',H',rfl,rr,m',x',hK⟩ | ⟨u,Z',H',rfl,m',x',hK⟩)
              · exact hn r u Z' H' w' rr m' x' hK
              · exact hp u Z' H' w' m' x' hK
          · cases hcb
      · rename_i l hg
        have rf:=xM s f
        rw [hg] at rf
        generalize hv:a.eval f=v at rf
        cases rf
        obtain ⟨el,er⟩:=zCJ s c.args.toList
        obtain ⟨fn,tmps,assign,body,hy,hround⟩:=h Z w _ el er m
        have hargs:(c.args.toList.map a.eval).toArray=c.args.map a.eval:=by apply Array.ext'; simp
        rw [hargs] at hy
        have hexec:(execOp a.eval { dst,op:=.call c,type:=ty,pos,after,guard }).run P w=.ok (.round l fn tmps assign body) w:=by
          simp [execOp,resolve,hc,hv,Deferred.ofValue,invoke,hy]
        refine ⟨fun _ _=>trivial, ?_⟩
        rw [Oper.semAt_eq _ _ _ hnd,hexec,Oper.uponIn_round]
        refine ⟨kI _ _, ?_⟩
        refine RoundIn.mono (show RoundIn (wQ ro) (0 - 1) P l fn tmps assign body w _ from hround) ?_
        rintro e w' ⟨u,r,Z',H',rfl,rr,m',x',hK⟩
        exact hn r u Z' H' w' rr m' x' hK
      · rename_i g bs hg
        obtain ⟨hcb,h⟩:=h
        have rf:=xM s f
        rw [hg] at rf
        generalize hv:a.eval f=v at rf
        cases rf with
        | meth _ bv _ hl hr =>
          obtain ⟨el,er⟩:=zCJ s c.args.toList
          have hlen:(bv++c.args.toList.map a.eval).length=(bs++c.args.toList.map (ev V N F)).length:=by simp only [List.length_append,hl,el]
          have hrep:∀ j (h:j < (bv++c.args.toList.map a.eval).length) (h':j < (bs++c.args.toList.map (ev V N F)).length),RepA V w Z (bv++c.args.toList.map a.eval)[j] (bs++c.args.toList.map (ev V N F))[j]:=by
            intro j hj hj'
            rw [List.getElem_append,List.getElem_append]
            by_cases e:j < bv.length
            · rw [dif_pos e,dif_pos (by omega)]; exact hr j e (by omega)
            · rw [dif_neg e, dif_neg (by omega)]
              simp only [List.length_append] at hj hj'
              have:=er (j - bv.length) (by omega) (by omega)
              simpa only [hl] using this
          unfold zH at hcb
          split at hcb
          · rename_i fn hfn
            simp only [Bool.and_eq_true,bne_iff_ne] at hcb
            have hne:=hcb.1
            have hnone:¬ fn.body=none:=fun e=>by rw [e] at hcb; simp at hcb
            have hargs:(bv++c.args.toList.map a.eval).toArray=bv.toArray++c.args.map a.eval:=by apply Array.ext'; simp
            have hexec:(execOp a.eval { dst,op:=.call c,type:=ty,pos,after,guard }).run P w=.ok (.enter g (bv.toArray++c.args.map a.eval)) w:=by
              simp [execOp,resolve,hc,hv,Deferred.ofValue,invoke,callFunc,hfn,hne,hnone]
            refine ⟨fun _ _=>trivial, ?_⟩
            rw [Oper.semAt_eq _ _ _ hnd,hexec,Oper.uponIn_enter,←hargs]
            refine ⟨kI _ _,callsIn_roundF.2 ?_⟩
            split at h
            · refine (h Z w _ hlen hrep m).mono ?_
              rintro e w' ⟨u,r,Z',H',rfl,rr,m',x',hK⟩
              exact hn r u Z' H' w' rr m' x' hK
            · refine (h Z w _ hlen hrep m).mono ?_
              rintro e w' (⟨u,r,Z',H',rfl,rr,m',x',hK⟩ | ⟨u,Z',H',rfl,m',x',hK⟩)
              · exact hn r u Z' H' w' rr m' x' hK
              · exact hp u Z' H' w' m' x' hK
          · cases hcb
      · exact h.elim
    · exact h.elim
  · obtain ⟨u, y, Z', H', w', hr, ry, m', x', hK⟩ := zFa h m
    exact jZ hnd rfl hr (hn y u Z' H' w' ry m' x' hK)
  · exact here rfl (zFR h m (xM s _) (xM s _)) (fun _ hk=>hk)
  · obtain ⟨Z', H', w', hr, m', x', hK⟩ := zDq h m (xM s _) (xM s _) (xM s _)
    refine ⟨fun _ _=>trivial, ?_⟩
    rw [Oper.semAt_eq _ _ _ hnd]
    simp only [execOp,Sem.run_bind,hr,Result.andThen_ok,Sem.run_pure]
    exact hn _ undef Z' H' w' (.undef _) m' x' hK
  · rename_i t x
    split at h
    · rename_i v hv
      have rx:=xM s x
      unfold zKK at hv
      split at hv
      · rename_i c hc
        rw [hc] at rx
        split at hv
        · rename_i ht
          rw [Option.map_eq_some_iff] at hv
          obtain ⟨u,hu,rfl⟩:=hv
          generalize hy:a.eval x=y at rx
          cases rx with
          | d _ _ rx =>
            cases rx with
            | agg cv _ hl h1 hr =>
              match cv,hl,hr with
              | [u'],_,hr =>
                have e:=zJz hu (hr 0 (by simp) (by simp))
                simp only [List.getElem_cons_zero] at e
                subst e
                refine here (m':=Instr.makeInterface t (.agg #[u'])) (K':=fun z=>K z H) ?_ ⟨.iface t (.agg #[u']),_, ?_,.d _ _ (.raw _ rfl),h⟩ (fun _ hk=>hk)
                · simp [execOp,hy]
                · unfold ifcT at ht
                  split at ht
                  · cases ht
                  · rename_i d hne hd
                    simp only [Instr.makeInterface,Sem.run_bind,run_underlying hd,Result.andThen_ok]
                    cases d with
                    | interface ms=>exact (hne ms rfl).elim
                    | _=>rfl
                  · cases ht
        · cases hv
      · cases hv
    · exact h.elim
  · rename_i x
    split at h
    · rename_i t v hv
      have rx:=xM s x
      rw [hv] at rx
      generalize hy:a.eval x=y at rx
      cases rx with
      | d _ _ rx =>
        cases rx
        refine ⟨fun _ _=>trivial, ?_⟩
        rw [Oper.semAt_eq _ _ _ hnd]
        simp only [execOp,Sem.run_bind,hy,Instr.panic,run_goPanic]
        exact hp _ Z H w m (.refl ..) h
    · exact h.elim
  · exact h.elim
def putF (F:Nat→A) (d:Option Tmp) (x:A):Nat→A:=match d with
  | some d=>updF F d x
  | none=>F
theorem St.put {F:Nat→A} {o:Option Tmp} {x:A} {v:Value} {Z':Nat→Prop} {H':Heap} {w':World} (s:St V N ds Z F H a w) (k:Keeps Z w Z' w') (m':Mem V Z' H' w') (r:RepA V w' Z' v x) :
    St V N ds Z' (putF F o x) H' (a.put o v) w':=by
  cases o with
  | none=>exact ⟨s.defers.keep k,s.size,fun i hi=>(s.slots i hi).keep k,m'⟩
  | some d =>
    refine ⟨s.defers.keep k,by simp [Act.put,s.size], ?_,m'⟩
    intro i hi
    have hs:a.tmps.size=N:=s.size
    simp only [Act.put,putF,updF]
    by_cases e:i=d
    · subst e
      simp only [if_true]
      rw [Array.getD_eq_getD_getElem?,Array.getElem?_setIfInBounds]
      simpa [hs,hi] using r
    · rw [if_neg e]
      have:=(s.slots i hi).keep k
      rw [Array.getD_eq_getD_getElem?] at this ⊢
      rw [Array.getElem?_setIfInBounds,if_neg (fun h=>e h.symm)]
      exact this
def uY (F:Nat→A) (N:Nat) (ops:Array Oper) (o:Oper) (yes no:Prop):Prop :=
  match o.guard with
  | none=>yes
  | some (j,want)=>match ops[j]? with
    | some p=>match p.dst with
      | some d=>if d < N then match F d with
        | .d (.bool b)=>if b=want then yes else no
        | .tup []=>no
        | _=>False
        else False
      | none=>False
    | none=>False
def aops (P:Program) (V:Env) (N:Nat) (ops:Array Oper):List Oper→(Nat→A)→Heap→((Nat→A)→Heap→Prop)→(Value→Heap→Prop)→Prop
  | [],F,H,K,_=>K F H
  | o::rest,F,H,K,KP=>uY F N ops o (aop P V N o F H (fun x H'=>aops P V N ops rest (putF F o.dst x) H' K KP) KP) (aops P V N ops rest (putF F o.dst (.tup [])) H K KP)
theorem zGd {V:Env} {w:World} {Z:Nat→Prop}:RepA V w Z undef (.tup []):=.tup [] [] rfl (fun j h=>by simp at h)
theorem zC8 {ops:Array Oper} {o:Oper} {yes no:Prop} (s:St V N ds Z F H a w) (h:uY F N ops o yes no) :
    (Region.wanted o (yielded ops a.tmps)=true∧yes)∨(Region.wanted o (yielded ops a.tmps)=false∧no):=by
  unfold uY at h
  unfold Region.wanted
  split at h
  · rename_i hg; exact .inl ⟨by rw [hg],h⟩
  · rename_i j want hg
    rw [hg]
    split at h
    · rename_i p hp
      split at h
      · rename_i d hd
        split at h
        · rename_i hdN
          have r:=s.slots d hdN
          split at h
          · rename_i b hb
            rw [hb] at r
            have r:=r.deep
            generalize hv:a.tmps.getD d undef=v at r
            cases r
            have hy:yielded ops a.tmps j=some b:=by
              have hsz:d < a.tmps.size:=by rw [s.size]; exact hdN
              simp only [yielded,hp,Option.bind_some,hd]
              simp only [Array.getD_eq_getD_getElem?,Array.getElem?_eq_getElem hsz,Option.getD_some] at hv
              simp [Array.getElem?_eq_getElem hsz,hv]
            split at h
            · rename_i e; subst e; exact .inl ⟨by simp [hy],h⟩
            · rename_i e; exact .inr ⟨by simpa [hy] using e,h⟩
          · rename_i hb
            rw [hb] at r
            generalize hv:a.tmps.getD d undef=v at r
            cases r with
            | tup cv _ hl _ =>
              have:cv=[]:=List.eq_nil_of_length_eq_zero (by simpa using hl)
              subst this
              have hsz:d < a.tmps.size:=by rw [s.size]; exact hdN
              have hy:yielded ops a.tmps j=none:=by
                simp only [yielded,hp,Option.bind_some,hd]
                simp only [Array.getD_eq_getD_getElem?,Array.getElem?_eq_getElem hsz,Option.getD_some] at hv
                simp [Array.getElem?_eq_getElem hsz,hv]
              exact .inr ⟨by simp [hy],h⟩
          · exact h.elim
        · exact h.elim
      · exact h.elim
    · exact h.elim
theorem zG0 {A1 A2 A3:Nat→A} (h:LeF A1 A2) (k:LeF A2 A3):LeF A1 A3:=fun i=>by
  rcases h i with h | h
  · rcases k i with k | k
    · exact .inl (h.trans k)
    · exact .inr (h.trans k)
  · exact .inr h
def wrD:List (Option Tmp)→Nat→Bool
  | [],_=>false
  | none::l,i=>wrD l i
  | some d::l,i=>i == d || wrD l i
def zEj (F:Nat→A) (l:List (Option Tmp)):Nat→A:=fun i=>match wrD l i with
  | true=>.undef
  | false=>F i
theorem zNe (F:Nat→A) (l:List (Option Tmp)):LeF (zEj F l) F:=fun i=>by
  unfold zEj; cases wrD l i <;> simp
theorem zG4 (F:Nat→A) (d:Option Tmp) (l:List (Option Tmp)) (x:A):LeF (zEj F (d::l)) (zEj (putF F d x) l):=fun i=>by
  cases d with
  | none=>exact .inl rfl
  | some d =>
    unfold zEj
    simp only [wrD]
    by_cases e:i=d
    · subst e; right; simp
    · have : (i == d) = false := by simpa using e
      rw [this,Bool.false_or]
      left
      simp only [putF,updF,if_neg e]
theorem zAB {ro:Option Nat} {ops:Array Oper} {Q:Exit→Act→World→Prop}:∀ (l:List Nat) (os:List Oper),l.map (ops[·]?)=os.map some→∀ {F:Nat→A} {Z:Nat→Prop} {H:Heap} {a:Act} {w:World} {K:(Nat→A)→Heap→Prop} {KP:Value→Heap→Prop},St V N ds Z F H a w →
    aops P V N ops os F H K KP→(∀ F' Z' H' a' w',St V N ds Z' F' H' a' w'→Ext Z H w Z' H' w'→K F' H'→Q .normal a' w') →
    (∀ v F' Z' H' a' w',St V N ds Z' F' H' a' w'→LeF (zEj F (os.map (·.dst))) F'→Ext Z H w Z' H' w'→KP v H'→Q (.panic [{ v,recovered:=false }]) a' w')→wpOpsIn (wQ ro) 0 P ops Q l a w
  | [],os,hl,F,Z,H,a,w,K,KP,s,h,hq,hp=>by
    cases os with
    | nil=>exact hq F Z H a w s (.refl ..) h
    | cons=>simp at hl
  | i::l,os,hl,F,Z,H,a,w,K,KP,s,h,hq,hp=>by
    cases os with
    | nil=>simp at hl
    | cons o os =>
      simp only [List.map_cons,List.cons.injEq] at hl
      obtain ⟨hi,hl⟩:=hl
      simp only [aops] at h
      simp only [wpOpsIn,hi]
      rcases zC8 s h with ⟨hw,h⟩ | ⟨hw,h⟩
      · rw [if_pos hw]
        refine zDY s h ?_ ?_
        · intro x v Z' H' w' rx m' x' hK
          have k:=s.mem.keeps x'
          refine zAB l os hl (s.put k m' rx) hK ?_ ?_
          · intro F2 Z2 H2 a2 w2 s2 x2 hK2
            exact hq F2 Z2 H2 a2 w2 s2 (x'.trans s.mem.zlt x2) hK2
          · intro v F2 Z2 H2 a2 w2 s2 f2 x2 hK2
            exact hp v F2 Z2 H2 a2 w2 s2 (zG0 (zG4 F o.dst _ x) f2) (x'.trans s.mem.zlt x2) hK2
        · intro v Z' H' w' m' x' hK
          exact hp v _ Z' H' a w' (s.put (o:=none) (x:=.undef) (v:=undef) (s.mem.keeps x') m' (.undef _)) (zNe F _) x' hK
      · rw [if_neg (by simp [hw])]
        have k:=s.mem.keeps (Ext.refl Z H w)
        refine ⟨fun _ _=>trivial,zAB l os hl (s.put (o:=o.dst) (v:=undef) k s.mem zGd) h ?_ ?_⟩
        · intro F2 Z2 H2 a2 w2 s2 x2 hK2
          exact hq F2 Z2 H2 a2 w2 s2 x2 hK2
        · intro v F2 Z2 H2 a2 w2 s2 f2 x2 hK2
          exact hp v F2 Z2 H2 a2 w2 s2 (zG0 (zG4 F o.dst _ _) f2) x2 hK2
abbrev panQ (Q:Post) (M:Nat→A):Value→Heap→Prop:=fun v H=>Q (.panic [{ v,recovered:=false }]) M H
theorem St.blank {F:Nat→A} (s:St V N ds Z F H a w):St V N ds Z (fun _=>.undef) H a w:=⟨s.defers,s.size,fun _ _=>.undef _,s.mem⟩
theorem AWp.region {ro:Option Nat} {id:Nat} {ops:Array Oper} {Q:Post} {F:Nat→A} {H:Heap} (h:aops P V N ops ops.toList F H (fun F H=>Q .normal F H) (panQ Q (zEj F (ops.toList.map (·.dst))))):AWp ro P V N (.region id ops false) Q F H:=by
  intro ds Z a w s
  refine wpIn_region (zAB (List.range ops.size) ops.toList ?_ s h ?_ ?_)
  · apply List.ext_getElem
    · simp
    · intro j h1 h2; simp at h1; simp [h1]
  · intro F' Z' H' a' w' s' x' q
    exact ⟨Z',F',H',s',x',q⟩
  · intro v F' Z' H' a' w' s' f' x' q
    exact ⟨Z',_,H',s'.le f' (.refl _),x',q⟩
end
end Go.Aug
